/- A part of the proof of TypecheckErrors. -/
import Derived.Test.YtdkabnfphmmmnaaGreatDoorAmB
namespace Go.Am
def X1j : D → Option Bool
  | .nilv .ptr => some true
  | .box _ => some false
  | .bxo o => some o.isNone
  | _ => none
def J1u (C : Cx) (L : List Oper) (o : Oper) (env : Env) : Option (Option Nat × D × Bool) :=
  match K1 L env o, o.op, H6 o with
  | some true, .binOp op t x y _, some d => match P2 C.T t, ev C.GL env x, ev C.GL env y, M1j op with
    | some i, .d xd, .d (.nilv .ptr), some neg => match i.u with
      | .ptr _ => some (d, xd, neg)
      | _ => none
    | _, _, _, _ => none
  | _, _, _ => none
theorem G1y {C : Cx} (hC : B2 C) {L : List Oper} {o : Oper} {env : Env} {H : T0} {d : Option Nat} {x : D} {neg b : Bool} (h : J1u C L o env = some (d, x, neg)) (hx : X1j x = some b) :
    K1 L env o = some true ∧ H6 o = some d ∧ N7 C o env H (.d (.bool (bif neg then !b else b))) := by
  unfold J1u at h
  split at h
  · rename_i op t x' y' sp d' hw ho hd
    split at h
    · rename_i i xd neg' ht hex hey hn
      split at h
      · rename_i et hu
        simp only [Option.some.injEq, Prod.mk.injEq] at h
        obtain ⟨rfl, rfl, rfl⟩ := h
        refine ⟨hw, hd, ?_⟩
        have ea : eqA i.u (ev C.GL env x') (ev C.GL env y') (M1j op) = some (True, .d (.bool (bif neg' then !b else b))) := by
          rw [hex, hey, hn, hu]
          cases xd with
          | nilv k =>
            cases k <;> simp only [X1j] at hx <;> first | (cases hx; done) | skip
            cases hx
            cases neg' <;> rfl
          | box cs =>
            simp only [X1j, Option.some.injEq] at hx
            subst hx
            cases neg' <;> rfl
          | bxo o =>
            simp only [X1j, Option.some.injEq] at hx
            subst hx
            cases neg' <;> rfl
          | _ => simp [X1j] at hx
        have hb : opA C.T C.GL o.op env H = some (True, .d (.bool (bif neg' then !b else b))) := by
          rw [ho]
          simp only [opA, F1w, ht]
          rw [hex, hey] at ea ⊢
          cases xd <;> first | exact ea | (simp [X1j] at hx; done)
        exact Bw hC hb trivial
      · cases h
    · cases h
  · cases h
theorem I0.nq {F : Fx} (hC : B2 F.C) {L l : List Oper} {o : Oper} {env : Env} {H : T0} {Q : Env → T0 → Prop} {d : Option Nat} {x : D} {neg b : Bool} (h : J1u F.C L o env = some (d, x, neg)) (hx : X1j x = some b)
    (k : I0 F L l (put env d (.d (.bool (bif neg then !b else b)))) H Q) : I0 F L (o :: l) env H Q := by
  obtain ⟨h1, h2, h3⟩ := G1y (H := H) hC h hx
  refine .yields h1 h3 ?_
  rw [S3 h2]
  exact k
def B1n : D → Option (List (List UInt8 × Row))
  | .mp es => some es
  | .nilv .map => some []
  | _ => none
def R1p (C : Cx) (L : List Oper) (o : Oper) (env : Env) : Option (Option Nat × D × List UInt8 × Bool × A) :=
  match K1 L env o, o.op, H6 o with
  | some true, .lookup t x y ok, some d => match P2 C.T t, ev C.GL env x, ev C.GL env y with
    | some i, .d xd, .d (.str k) => match i.u with
      | .map kt et => match P2 C.T kt, P2 C.T et with
        | some ki, some ei => match ki.u, frc (J1f ei) with
          | .str, some z => some (d, xd, k, ok, z)
          | _, _ => none
        | _, _ => none
      | _ => none
    | _, _, _ => none
  | _, _, _ => none
theorem C1n {C : Cx} (hC : B2 C) {L : List Oper} {o : Oper} {env : Env} {H : T0} {d : Option Nat} {xd : D} {k : List UInt8} {ok : Bool} {z : A} {es : List (List UInt8 × Row)} (h : R1p C L o env = some (d, xd, k, ok, z)) (he : B1n xd = some es) :
    K1 L env o = some true ∧ H6 o = some d ∧ N7 C o env H (lkA (O3 k es) z ok) := by
  unfold R1p at h
  split at h
  · rename_i t x y ok' d' hw ho hd
    split at h
    · rename_i i xd' k' ht hx hy
      split at h
      · rename_i kt et hu
        split at h
        · rename_i ki ei hki hei
          split at h
          · rename_i z' hku hz
            simp only [Option.some.injEq, Prod.mk.injEq] at h
            obtain ⟨rfl, rfl, rfl, rfl, rfl⟩ := h
            refine ⟨hw, hd, ?_⟩
            intro M G w a next Qw hρ hG hgl hH hkk
            have hz' := Ut hz
            subst hz'
            rw [ho] at hρ
            have hxr := hρ x (by simp [Op.operands])
            have hyr := hρ y (by simp [Op.operands])
            rw [hx] at hxr
            rw [hy] at hyr
            generalize hxv : a.eval x = xv at hxr
            generalize hyv : a.eval y = yv at hyr
            cases hxr; rename_i hxr
            cases hyr; rename_i hyr; cases hyr
            have hd := Ss (hC.tok.facts ht) hu
            have hkd := Qp (hC.tok.facts hki) hku
            obtain ⟨zv, hzr, hzrel⟩ := V1m hC.tok hei M G
            have key : ∃ v, (Instr.lookup t xv (.string ⟨k'.toArray⟩) ok').run C.P w = .ok v w ∧ B1 M G (lkA (O3 k' es) (J1f ei) ok') v := by
              cases hxr with
              | nilmap =>
                simp only [B1n, Option.some.injEq] at he
                subst he
                refine ⟨if ok' then .tuple #[zv, .bool false] else zv, ?_, ?_⟩
                · simp [Instr.lookup, run_underlying hd, Yi hkd, Instr.findKey, run_underlying hkd, Instr.findNow, hzr w]
                · cases ok' with
                  | false => simpa [lkA, O3] using hzrel
                  | true =>
                    refine .tup rfl fun i x v hx hv => ?_
                    match i with
                    | 0 => simp at hx hv; subst hx; subst hv; exact hzrel
                    | 1 => simp at hx hv; subst hx; subst hv; exact .d .bool
                    | _ + 2 => simp at hx
              | mpnil =>
                simp only [B1n, Option.some.injEq] at he
                subst he
                refine ⟨if ok' then .tuple #[zv, .bool false] else zv, ?_, ?_⟩
                · simp [Instr.lookup, run_underlying hd, Yi hkd, Instr.findKey, run_underlying hkd, Instr.findNow, hzr w]
                · cases ok' with
                  | false => simpa [lkA, O3] using hzrel
                  | true =>
                    refine .tup rfl fun i x v hx hv => ?_
                    match i with
                    | 0 => simp at hx hv; subst hx; subst hv; exact hzrel
                    | 1 => simp at hx hv; subst hx; subst hv; exact .d .bool
                    | _ + 2 => simp at hx
              | @mp es' b ms J1 hM hl hk hv =>
                simp only [B1n, Option.some.injEq] at he
                subst he
                obtain ⟨ms2, cl, g2, henc⟩ : ∃ ms2 cl, w.heap[b]? = some (.map ms2 cl) ∧ R1m ms = R1m ms2 := by
                  rcases hG _ _ hM with ⟨h1, _⟩ | ⟨_, ms2, cl, h1, h2⟩
                  · cases h1
                  · exact ⟨ms2, cl, h1, h2⟩
                have hmap : ms.map (fun e => Value.tuple #[e.key, e.val]) = ms2.map (fun e => Value.tuple #[e.key, e.val]) := by
                  unfold R1m at henc
                  simpa using henc
                have hsz : ms.size = ms2.size := by simpa using congrArg Array.size hmap
                have hent : ∀ (i : Nat) e, ms2[i]? = some e → ∃ e', ms[i]? = some e' ∧ e'.key = e.key ∧ e'.val = e.val := fun i e hi => by
                  have hlt : i < ms.size := by rw [hsz]; exact (Array.getElem?_eq_some_iff.1 hi).1
                  have := congrArg (fun l => l[i]?) hmap
                  simp only [Array.getElem?_map, hi, Array.getElem?_eq_getElem hlt, Option.map_some, Option.some.injEq, Value.tuple.injEq] at this
                  refine ⟨ms[i], Array.getElem?_eq_getElem hlt, ?_, ?_⟩
                  · exact (by simpa using this : _ ∧ _).1
                  · exact (by simpa using this : _ ∧ _).2
                have hkeys : ∀ (n : Nat) k' cs e, es'[n]? = some (k', cs) → ms2.toList[n]? = some e → e.key = .string ⟨k'.toArray⟩ := fun n k' cs e a b => by
                  obtain ⟨e', h1, h2, _⟩ := hent n e (by simpa using b)
                  rw [← h2]; exact (hk n k' cs e' a h1).1
                rcases V1b (k := k') (i := 0) (by rw [← hl, hsz]; simp) hkeys with ⟨h1, h2, _⟩ | ⟨n, cs, e, h1, h2, h3, h4, _⟩
                · refine ⟨if ok' then .tuple #[zv, .bool false] else zv, ?_, ?_⟩
                  · simp [Instr.lookup, run_underlying hd, Hk g2, Yi hkd, Instr.findKey, run_underlying hkd, h2, hzr w]
                  · rw [h1]
                    cases ok' with
                    | false => simpa [lkA] using hzrel
                    | true =>
                      refine .tup rfl fun i x v hx hv => ?_
                      match i with
                      | 0 => simp at hx hv; subst hx; subst hv; exact hzrel
                      | 1 => simp at hx hv; subst hx; subst hv; exact .d .bool
                      | _ + 2 => simp at hx
                · have hev : B1 M G (Th cs) e.val := by
                    obtain ⟨e', q1, _, q3⟩ := hent n e (by simpa using h3)
                    rw [← q3, (hk n k' cs e' h1 q1).2.2]
                    exact X2b fun j x hx => hv n j k' cs x h1 hx
                  refine ⟨if ok' then .tuple #[e.val, .bool true] else e.val, ?_, ?_⟩
                  · simp [Instr.lookup, run_underlying hd, Hk g2, Yi hkd, Instr.findKey, run_underlying hkd, h4]
                  · rw [h2]
                    cases ok' with
                    | false => simpa [lkA] using hev
                    | true =>
                      refine .tup rfl fun i x v hx hv => ?_
                      match i with
                      | 0 => simp at hx hv; subst hx; subst hv; exact hev
                      | 1 => simp at hx hv; subst hx; subst hv; exact .d .bool
                      | _ + 2 => simp at hx
              | _ => simp [B1n] at he
            obtain ⟨v, hv, hrel⟩ := key
            unfold Oper.wp execOp
            simp only [ho, hxv, hyv, Sem.run_bind, hv, Result.andThen_ok, Sem.run_pure, Oper.upon_value]
            exact hkk _ M w hrel hG (Ext.refl _ _ _)
          · cases h
        · cases h
      · cases h
    · cases h
  · cases h
theorem I0.fl {F : Fx} (hC : B2 F.C) {L l : List Oper} {o : Oper} {env : Env} {H : T0} {Q : Env → T0 → Prop} {d : Option Nat} {xd : D} {k : List UInt8} {ok : Bool} {z y : A} {es : List (List UInt8 × Row)} (h : R1p F.C L o env = some (d, xd, k, ok, z))
    (he : B1n xd = some es) (e : lkA (O3 k es) z ok = y) (kk : I0 F L l (put env d y) H Q) : I0 F L (o :: l) env H Q := by
  subst e
  obtain ⟨h1, h2, h3⟩ := C1n (H := H) hC h he
  refine .yields h1 h3 ?_
  rw [S3 h2]
  exact kk
theorem AG.fl {C : Cx} (hC : B2 C) {L l : List Oper} {o : Oper} {env : Env} {cnd : Cnd} {H : T0} {Q : Env → Cnd → Prop} {W : Option Bool} {d : Option Nat} {xd : D} {k : List UInt8} {ok : Bool} {z y : A} {es : List (List UInt8 × Row)} (hw : Ar L env cnd o = some W)
    (h : R1p C [] (noG o) env = some (d, xd, k, ok, z)) (hs : holds W → Ol cnd (U11 o)) (he : holds W → B1n xd = some es) (e : lkA (O3 k es) z ok = y) (kk : AG C L l (put env d y) (Sj cnd d W) H Q) : AG C L (o :: l) env cnd H Q := by
  subst e
  by_cases hh : holds W
  · obtain ⟨_, h2, h3⟩ := C1n (H := H) hC h (he hh)
    exact .lift h2 hw hs (fun _ => h3) kk
  · refine .lift (d := d) ?_ hw hs (fun h' => absurd h' hh) kk
    unfold R1p at h
    split at h
    · rename_i hd
      split at h
      · split at h
        · split at h
          · split at h
            · simp only [Option.some.injEq, Prod.mk.injEq] at h
              obtain ⟨rfl, _⟩ := h
              exact hd
            · cases h
          · cases h
        · cases h
      · cases h
    · cases h
theorem AG.me {C : Cx} (hC : B2 C) {L l : List Oper} {o : Oper} {env : Env} {cnd : Cnd} {H : T0} {Q : Env → Cnd → Prop} {W : Option Bool} {d : Option Nat} {es : List (List UInt8 × Row)} {k : List UInt8} {ok : Bool} {z y : A} (hw : Ar L env cnd o = some W)
    (h : U1j C [] (noG o) env H = some ⟨d, es, k, ok, z⟩) (hs : holds W → Ol cnd (U11 o)) (e : lkA (O3 k es) z ok = y) (kk : AG C L l (put env d y) (Sj cnd d W) H Q) : AG C L (o :: l) env cnd H Q := by
  subst e
  exact .lift (D1u h).2 hw hs (fun _ => B1l hC h rfl) kk
end Go.Am

namespace Go.Am
def A18 (F : Fx) (L : List Oper) (o : Oper) (env : Env) (H : T0) (x : A) (H' : T0) : Prop :=
  ∀ env' K, (∀ t ∈ Lc L o, env' t = env t) → ∀ Q : Env → T0 → Prop, Q (put env' o.dst x) H' → I0 ⟨F.C, F.N, K⟩ L [o] env' H Q
def B18 (ps : List Nat) : Nat → T0 → T0
  | _, [] => []
  | n, x :: r => (bif ps.contains n then .dead else x) :: B18 ps (n + 1) r
def H4 (ps : List Nat) (H : T0) : T0 := B18 ps 0 H
theorem K1u {ps : List Nat} : ∀ {H : T0} {k n : Nat}, (B18 ps k H)[n]? = (H[n]?).map fun x => bif ps.contains (k + n) then Ob.dead else x
  | [], k, n => by simp [B18]
  | x :: r, k, 0 => by simp [B18]
  | x :: r, k, n + 1 => by
    simp only [B18, List.getElem?_cons_succ]
    rw [K1u, show k + 1 + n = k + (n + 1) by omega]
theorem Pg {ps : List Nat} {H : T0} {n : Nat} : (H4 ps H)[n]? = (H[n]?).map fun x => bif ps.contains n then Ob.dead else x := by
  unfold H4; rw [K1u, Nat.zero_add]
theorem Sc {ps : List Nat} {H : T0} : (H4 ps H).length = H.length := by
  have key : ∀ (H : T0) (k : Nat), (B18 ps k H).length = H.length := by
    intro H
    induction H with
    | nil => intro k; rfl
    | cons x r ih => intro k; simp only [B18, List.length_cons, ih]
  exact key H 0
theorem Z21 {H : T0} : H4 [] H = H := by
  apply List.ext_getElem?
  intro n
  rw [Pg]
  cases H[n]? <;> simp
theorem N1w {GL : GT} {env env' : Env} {o : Oper} (h : ∀ y ∈ o.op.operands, ev GL env' y = ev GL env y) : Yl GL env' o = Yl GL env o := by
  unfold Yl
  split
  · rename_i fo as ts ho
    rw [ho] at h
    rw [h fo (by simp [Op.operands, Call.operands])]
    have : as.toList.map (ev GL env') = as.toList.map (ev GL env) := List.map_congr_left fun y hy => h y (by simp only [Op.operands, Call.operands, Array.mem_append]; exact .inr (by simpa using hy))
    rw [this]
  · rfl
theorem E25 {C : Cx} {L : List Oper} {env env' : Env} {o : Oper} (h : ∀ t ∈ Lc L o, env' t = env t) : Dk C L o env' = Dk C L o env := by
  unfold Dk
  rw [Vt h, N1w fun y hy => H16 fun t ht => h t (by
    subst ht
    simp only [Lc, List.mem_append, List.mem_filterMap]
    exact .inl ⟨.tmp t, by simpa using hy, rfl⟩)]
theorem M1f : ∀ l : List A, Ru l = some l
  | [] => rfl
  | x :: r => by simp only [Ru, M1f r]
theorem H1y : ∀ l : List D, V1r l = some l
  | [] => rfl
  | x :: r => by simp only [V1r, H1y r]
theorem B2f (x : A) : frc x = some x := by
  cases x with
  | d y => cases y <;> rfl
  | ptr cs => simp only [frc, H1y]
  | clo f cs => simp only [frc, M1f]
  | agg cs => simp only [frc, M1f]
  | tup cs => simp only [frc, M1f]
  | _ => rfl
theorem I1y : ∀ l : List A, B1s l = some l
  | [] => rfl
  | x :: r => by simp only [B1s, B2f, I1y r]
theorem J1y : ∀ H : T0, Qm H = some H
  | [] => rfl
  | x :: r => by
    have ih := J1y r
    cases x <;> simp only [Qm, I1y, ih]
theorem A18.g {F : Fx} {L : List Oper} {o : Oper} {env : Env} {H H' : T0} {d : Option Nat} {g : FuncId} {xs : List A} {x y : A} (idx : List Nat) {cargs : List A} {cH cH' : T0} {un : List Nat}
    (hc : S0 F.C g cargs cH (Ret cH' x)) (h : Dk F.C L o env = some (d, g, xs)) (hx : Mr (Se idx H.length) cargs = xs) (hi : E1f idx H.length = true) (hm : R1c H idx = Z1m (Se idx H.length) cH)
    (ht : Ka idx cH = []) (hr : frc (ren (Se idx H.length) x) = some y) (hH : Qm (Fm H idx (Se idx H.length) (Ka idx cH) cH') = some H')
    (hun : (idx.all (fun p => !un.contains p) && un.all (fun p => Nat.blt p H.length) && Nat.ble idx.length cH'.length) = true) :
    ∀ ps : List Nat, (∀ p ∈ ps, p ∈ un) → A18 F L o env (H4 ps H) y (H4 ps H') := by
  simp only [Bool.and_eq_true, List.all_eq_true] at hun
  obtain ⟨⟨u1, u2⟩, u3⟩ := hun
  have u3 := Nat.le_of_ble_eq_true u3
  intro ps hps env' K he Q hq
  have h' := h
  rw [← E25 he] at h'
  have hd := (Ek h).2.2
  have hout : ∀ p ∈ idx, ps.contains p = false := fun p hp => by
    have := u1 p hp
    cases hb : ps.contains p with
    | false => rfl
    | true =>
      have h1 := hps p (by simpa using hb)
      have h2 : un.contains p = true := by simpa using h1
      rw [h2] at this; cases this
  have hsel : ∀ l : List Nat, (∀ p ∈ l, p ∈ idx) → R1c (H4 ps H) l = R1c H l := by
    intro l
    induction l with
    | nil => intro _; rfl
    | cons p r ih =>
      intro hl
      simp only [R1c]
      rw [ih fun q hq => hl q (List.mem_cons_of_mem _ hq), F3, F3, Pg]
      have := hout p (hl p List.mem_cons_self)
      cases H[p]? with
      | none => rfl
      | some z => simp only [Option.map_some, this, cond_false]
  have hmg : Fm (H4 ps H) idx (Se idx H.length) (Ka idx cH) cH' = H4 ps (Fm H idx (Se idx H.length) (Ka idx cH) cH') := by
    apply List.ext_getElem?
    intro n
    rw [Q1j u3, Pg, Pg, Q1j u3, Sc]
    by_cases hn : n < H.length
    · rw [if_pos hn, if_pos hn]
      cases hf : fnd idx n with
      | none =>
        simp only
        rw [ht]
        cases H[n]? with
        | none => rfl
        | some z =>
          simp only [Option.map_some]
          cases ps.contains n <;> simp only [cond_true, cond_false, dgO]
      | some i =>
        simp only
        have hin : n ∈ idx := List.mem_of_getElem? (Dw hf)
        cases cH'[i]? with
        | none => rfl
        | some z => simp only [Option.map_some, hout n hin, cond_false]
    · rw [if_neg hn, if_neg hn]
      have : ps.contains n = false := by
        cases hb : ps.contains n with
        | false => rfl
        | true =>
          have h1 := hps n (by simpa using hb)
          have := Nat.le_of_ble_eq_true (u2 n h1)
          exact absurd this hn
      cases cH'[idx.length + (n - H.length)]? with
      | none => rfl
      | some z => simp only [Option.map_some, this, cond_false]
  have hHe := Mu hH
  refine g' idx hc h' (by rw [Sc]; exact hx) (by rw [Sc]; exact hi) (by rw [Sc, hsel idx fun _ h => h]; exact hm) (by rw [Sc]; exact hr) (H' := H4 ps H') ?_ (I0.nil ?_)
  · rw [Sc, hmg, ← hHe]
    exact J1y _
  · rw [show (fun t => dg (Ka idx cH) (env' t)) = env' from by funext t; rw [ht, S21]]
    rw [← hd]
    exact hq
def loN (L : List Oper) (ls : List Nat) (j : Nat) : Nat := (ls.filter fun l => Mo L L.length j l).length
def hiN (L : List Oper) (ls : List Nat) (j : Nat) : Nat := (ls.filter fun l => !Mo L L.length l j).length
def Bp : List (Nat × Nat) → Nat → Option Nat
  | [], _ => none
  | q :: r, j => bif Nat.beq q.1 j then some q.2 else Bp r j
def unw (L : List Oper) : List (Nat × Nat) → Nat → List Nat
  | [], _ => []
  | q :: r, j => bif Mo L L.length j q.1 then unw L r j else q.2 :: unw L r j
def A22 (F : Fx) (L : List Oper) (o : Oper) (env : Env) (t : TypeId) (cs : List A) : Prop :=
  ∀ env' H M G w (a : Act), (∀ u ∈ Lc L o, env' u = env u) → St F.C F.N M G w env' H a → ∃ vs, Mn M G cs vs ∧ (execOp a.eval o).run F.C.P w = .ok (.value (.pointer (some ⟨w.heap.size, 0, none⟩))) (w.alloc (.cells vs t))
def AS (F : Fx) (L : List Oper) (ls : List Nat) (fs : List (Nat × Nat)) (Hs : List T0) : Nat → Nat → List Oper → Env → (Env → Prop) → Prop
  | _, _, [], env, Q => Q env
  | j, i, o :: r, env, Q =>
    (∃ d x, o.dst = d ∧ ls.contains j = false ∧ Bp fs j = none ∧ (∀ H ∈ Hs.drop (loN L ls j), ∀ ps : List Nat, (∀ p ∈ ps, p ∈ unw L fs j) → D1f F.C L o env (H4 ps H) x) ∧ AS F L ls fs Hs (j + 1) i r (put env d x) Q) ∨
    (∃ x H H', nth ls i = some j ∧ Bp fs j = none ∧ K1 L env o = some true ∧ nth Hs i = some H ∧ nth Hs (i + 1) = some H' ∧ (∀ ps : List Nat, (∀ p ∈ ps, p ∈ unw L fs j) → A18 F L o env (H4 ps H) x (H4 ps H')) ∧
      AS F L ls fs Hs (j + 1) (i + 1) r (put env o.dst x) Q) ∨
    (∃ t cs p, Bp fs j = some p ∧ ls.contains j = false ∧ K1 L env o = some true ∧ A22 F L o env t cs ∧ (∀ H ∈ Hs.take (hiN L ls j + 1), nth H p = some (.row cs t)) ∧ AS F L ls fs Hs (j + 1) i r (put env o.dst (.ref p 0)) Q)
def B22 (L : List Oper) (ls : List Nat) (n : Nat) : Bool :=
  (List.range ls.length).all fun i => (match nth ls i with | some j => Nat.blt j n | none => true) && (List.range i).all fun k => match nth ls i, nth ls k with | some j, some l => Nat.blt l j && Mo L L.length j l | _, _ => true
theorem F25 {L : List Oper} {ls : List Nat} {n : Nat} (h : B22 L ls n = true) : (∀ l ∈ ls, l < n) ∧ ∀ (s k j l : Nat), ls[s]? = some j → ls[k]? = some l → k < s → l < j ∧ Mo L L.length j l = true := by
  unfold B22 at h
  refine ⟨fun l hl => ?_, fun s k j l hs hk hlt => ?_⟩
  · obtain ⟨i, hi⟩ := List.getElem?_of_mem hl
    have h1 := List.all_eq_true.1 h i (List.mem_range.2 (List.getElem?_eq_some_iff.1 hi).1)
    simp only [Bool.and_eq_true, F3, hi] at h1
    exact Nat.le_of_ble_eq_true h1.1
  · have h1 := List.all_eq_true.1 h s (List.mem_range.2 (List.getElem?_eq_some_iff.1 hs).1)
    simp only [Bool.and_eq_true] at h1
    have h2 := List.all_eq_true.1 h1.2 k (List.mem_range.2 hlt)
    simp only [F3, hs, hk, Bool.and_eq_true] at h2
    exact ⟨Nat.le_of_ble_eq_true h2.1, h2.2⟩
def Ia (ls : List Nat) (listed : Array Bool) : Nat := (ls.filter fun l => listed.getD l false).length
theorem C22 {ls : List Nat} {listed : Array Bool} (h : ∀ l ∈ ls, listed.getD l false = true) : Ia ls listed = ls.length := by
  unfold Ia
  rw [List.filter_eq_self.2 h]
theorem Y2b {ls : List Nat} {listed : Array Bool} (h : ∀ l, listed.getD l false = false) : Ia ls listed = 0 := by
  unfold Ia
  rw [List.filter_eq_nil_iff.2 fun l _ => by rw [h l]; simp]
  rfl
theorem D1n {ls : List Nat} {listed : Array Bool} {j : Nat} (h : j ∉ ls) : Ia ls (listed.setIfInBounds j true) = Ia ls listed := by
  unfold Ia
  congr 1
  refine List.filter_congr fun l hl => ?_
  exact getD_set_ne false (fun e => h (by rw [e]; exact hl))
theorem K26 : ∀ {ls : List Nat} {listed : Array Bool} {s j : Nat}, ls[s]? = some j → (∀ (k l : Nat), k < s → ls[k]? = some l → listed.getD l false = true) → (∀ (k l : Nat), s ≤ k → ls[k]? = some l → listed.getD l false = false) → Ia ls listed = s
  | [], _, s, j, h, _, _ => by simp at h
  | x :: r, listed, 0, j, h, h1, h2 => by
    unfold Ia
    rw [List.filter_eq_nil_iff.2 fun l hl => by
      obtain ⟨k, hk⟩ := List.getElem?_of_mem hl
      rw [h2 k l (Nat.zero_le _) hk]; simp]
    rfl
  | x :: r, listed, s + 1, j, h, h1, h2 => by
    have ih := K26 (ls := r) (listed := listed) (s := s) (j := j) (by simpa using h) (fun k l hk hl => h1 (k + 1) l (by omega) (by simpa using hl)) (fun k l hk hl => h2 (k + 1) l (by omega) (by simpa using hl))
    unfold Ia at ih ⊢
    have hx := h1 0 x (by omega) rfl
    rw [List.filter_cons, if_pos hx, List.length_cons, ih]
theorem D22 : ∀ {ls : List Nat} {listed : Array Bool} {s j : Nat}, (∀ (a b x y : Nat), ls[a]? = some x → ls[b]? = some y → a < b → x < y) → ls[s]? = some j → listed.getD j false = false → j < listed.size → Ia ls (listed.setIfInBounds j true) = Ia ls listed + 1
  | [], _, s, j, _, h, _, _ => by simp at h
  | x :: r, listed, 0, j, ho, h, hf, hj => by
    simp only [List.getElem?_cons_zero, Option.some.injEq] at h
    subst h
    have hr : x ∉ r := fun hm => by
      obtain ⟨k, hk⟩ := List.getElem?_of_mem hm
      have := ho 0 (k + 1) x x rfl (by simpa using hk) (by omega)
      omega
    have := D1n (listed := listed) hr
    unfold Ia at this ⊢
    rw [List.filter_cons, List.filter_cons, if_pos (by simp [hj]), if_neg (by rw [hf]; simp), List.length_cons, this]
  | x :: r, listed, s + 1, j, ho, h, hf, hj => by
    have hxj : x < j := ho 0 (s + 1) x j rfl h (by omega)
    have ih := D22 (ls := r) (listed := listed) (s := s) (j := j) (fun a b x y h1 h2 h3 => ho (a + 1) (b + 1) x y (by simpa using h1) (by simpa using h2) (by omega)) (by simpa using h) hf hj
    unfold Ia at ih ⊢
    have hx : (listed.setIfInBounds j true).getD x false = listed.getD x false := getD_set_ne false (by omega)
    rw [List.filter_cons, List.filter_cons, hx]
    split
    · rw [List.length_cons, List.length_cons, ih]
    · exact ih
def E22 (F : Fx) (L : List Oper) (ls : List Nat) (fs : List (Nat × Nat)) (Hs : List T0) (i : Nat) (o : Oper) (env : Env) (x : A) : Prop :=
  (ls.contains i = false ∧ Bp fs i = none ∧ ∀ H ∈ Hs.drop (loN L ls i), ∀ ps : List Nat, (∀ p ∈ ps, p ∈ unw L fs i) → D1f F.C L o env (H4 ps H) x) ∨
  (∃ s H H', ls[s]? = some i ∧ Bp fs i = none ∧ K1 L env o = some true ∧ Hs[s]? = some H ∧ Hs[s + 1]? = some H' ∧ ∀ ps : List Nat, (∀ p ∈ ps, p ∈ unw L fs i) → A18 F L o env (H4 ps H) x (H4 ps H')) ∨
  (∃ t cs p, Bp fs i = some p ∧ ls.contains i = false ∧ K1 L env o = some true ∧ A22 F L o env t cs ∧ (∀ H ∈ Hs.take (hiN L ls i + 1), nth H p = some (.row cs t)) ∧ x = .ref p 0)
theorem AS.outs {F : Fx} {L : List Oper} {ls : List Nat} {fs : List (Nat × Nat)} {Hs : List T0} {env : Env} {Q : Env → Prop} {n : Nat} (hn : n ≤ L.length) (h : AS F L ls fs Hs 0 0 (L.take n) env Q) :
    ∃ out : Nat → A, (∀ i o, i < n → L[i]? = some o → E22 F L ls fs Hs i o (V2 L env out (fun _ => true) i) (out i)) ∧ Q (V2 L env out (fun _ => true) n) := by
  have key : ∀ (m k s : Nat) (out0 : Nat → A), k + m = n → (∀ i o, i < k → L[i]? = some o → E22 F L ls fs Hs i o (V2 L env out0 (fun _ => true) i) (out0 i)) →
      AS F L ls fs Hs k s ((L.take n).drop k) (V2 L env out0 (fun _ => true) k) Q →
      ∃ out : Nat → A, (∀ i o, i < n → L[i]? = some o → E22 F L ls fs Hs i o (V2 L env out (fun _ => true) i) (out i)) ∧ Q (V2 L env out (fun _ => true) n) := by
    intro m
    induction m with
    | zero =>
      intro k s out0 hk h0 hq
      have : k = n := by omega
      subst this
      rw [List.drop_eq_nil_of_le (by simp; omega)] at hq
      exact ⟨out0, h0, hq⟩
    | succ m ih =>
      intro k s out0 hk h0 hq
      have hlt : k < n := by omega
      have hkl : k < L.length := by omega
      have e : (L.take n).drop k = L[k] :: (L.take n).drop (k + 1) := by
        rw [List.drop_eq_getElem_cons (by simp; omega)]
        simp
      rw [e] at hq
      have hko : L[k]? = some L[k] := List.getElem?_eq_getElem hkl
      have go : ∀ (x : A) (s' : Nat), E22 F L ls fs Hs k L[k] (V2 L env out0 (fun _ => true) k) x →
          AS F L ls fs Hs (k + 1) s' ((L.take n).drop (k + 1)) (put (V2 L env out0 (fun _ => true) k) (L[k]).dst x) Q →
          ∃ out : Nat → A, (∀ i o, i < n → L[i]? = some o → E22 F L ls fs Hs i o (V2 L env out (fun _ => true) i) (out i)) ∧ Q (V2 L env out (fun _ => true) n) := by
        intro x s' hst hrest
        let out1 : Nat → A := fun i => if i = k then x else out0 i
        have hsame : ∀ i, i ≤ k → V2 L env out1 (fun _ => true) i = V2 L env out0 (fun _ => true) i := by
          intro i hi
          funext t
          simp only [V2]
          cases hl : G6 L (fun _ => true) t i with
          | none => rfl
          | some j =>
            have := (P11 hl).1
            simp only [out1]
            rw [if_neg (by omega)]
        refine ih (k + 1) s' out1 (by omega) (fun i o hi ho => ?_) ?_
        · by_cases hik : i = k
          · subst hik
            rw [hko] at ho
            simp only [Option.some.injEq] at ho
            subst ho
            rw [hsame i (Nat.le_refl _)]
            simpa [out1] using hst
          · rw [hsame i (by omega)]
            have := h0 i o (by omega) ho
            simpa [out1, hik] using this
        · rw [V1t hko, hsame k (Nat.le_refl _)]
          simpa [out1] using hrest
      rcases hq with ⟨d, x, hd, hn1, hn2, hst, hrest⟩ | ⟨x, H, H', h1, hf, hw, h2, h3, hl, hrest⟩ | ⟨t, cs, p, hf, hn1, hw, hfl, hrow, hrest⟩
      · exact go x s (.inl ⟨hn1, hn2, hst⟩) (by rw [hd]; exact hrest)
      · rw [F3] at h1 h2 h3
        exact go x (s + 1) (.inr (.inl ⟨s, H, H', h1, hf, hw, h2, h3, hl⟩)) hrest
      · exact go _ s (.inr (.inr ⟨t, cs, p, hf, hn1, hw, hfl, hrow, rfl⟩)) hrest
  exact key n 0 0 (fun _ => .junk) (by omega) (fun i o hi => by omega) (by simpa [U1t] using h)
def unf (listed : Array Bool) : List (Nat × Nat) → List Nat
  | [] => []
  | q :: r => bif listed.getD q.1 false then unf listed r else q.2 :: unf listed r
theorem Sx {listed : Array Bool} {p : Nat} : ∀ {fs : List (Nat × Nat)}, p ∈ unf listed fs ↔ ∃ q ∈ fs, q.2 = p ∧ listed.getD q.1 false = false
  | [] => by simp [unf]
  | q :: r => by
    simp only [unf]
    cases hq : listed.getD q.1 false with
    | true =>
      simp only [cond_true, Sx (fs := r), List.mem_cons]
      constructor
      · rintro ⟨x, h1, h2⟩; exact ⟨x, .inr h1, h2⟩
      · rintro ⟨x, rfl | h1, h2⟩
        · rw [hq] at h2; cases h2.2
        · exact ⟨x, h1, h2⟩
    | false =>
      simp only [cond_false, List.mem_cons, Sx (fs := r)]
      constructor
      · rintro (rfl | ⟨x, h1, h2⟩)
        · exact ⟨q, .inl rfl, rfl, hq⟩
        · exact ⟨x, .inr h1, h2⟩
      · rintro ⟨x, rfl | h1, h2⟩
        · exact .inl h2.1.symm
        · exact .inr ⟨x, h1, h2⟩
theorem O1w {L : List Oper} {j p : Nat} : ∀ {fs : List (Nat × Nat)}, p ∈ unw L fs j ↔ ∃ q ∈ fs, q.2 = p ∧ Mo L L.length j q.1 = false
  | [] => by simp [unw]
  | q :: r => by
    simp only [unw]
    cases hq : Mo L L.length j q.1 with
    | true =>
      simp only [cond_true, O1w (fs := r), List.mem_cons]
      constructor
      · rintro ⟨x, h1, h2⟩; exact ⟨x, .inr h1, h2⟩
      · rintro ⟨x, rfl | h1, h2⟩
        · rw [hq] at h2; cases h2.2
        · exact ⟨x, h1, h2⟩
    | false =>
      simp only [cond_false, List.mem_cons, O1w (fs := r)]
      constructor
      · rintro (rfl | ⟨x, h1, h2⟩)
        · exact ⟨q, .inl rfl, rfl, hq⟩
        · exact ⟨x, .inr h1, h2⟩
      · rintro ⟨x, rfl | h1, h2⟩
        · exact .inl h2.1.symm
        · exact .inr ⟨x, h1, h2⟩
theorem K1y {j p : Nat} : ∀ {fs : List (Nat × Nat)}, Bp fs j = some p → (j, p) ∈ fs
  | [], h => by cases h
  | q :: r, h => by
    simp only [Bp] at h
    cases hq : Nat.beq q.1 j with
    | true =>
      rw [hq] at h
      obtain rfl := Nat.eq_of_beq_eq_true hq
      simp only [cond_true, Option.some.injEq] at h
      subst h
      exact List.mem_cons_self
    | false => rw [hq] at h; exact List.mem_cons_of_mem _ (K1y h)
theorem E1n {j : Nat} : ∀ {fs : List (Nat × Nat)}, Bp fs j = none → ∀ q ∈ fs, q.1 ≠ j
  | [], _, q, hq => by cases hq
  | x :: r, h, q, hq => by
    simp only [Bp] at h
    cases hx : Nat.beq x.1 j with
    | true => rw [hx] at h; cases h
    | false =>
      rw [hx] at h
      cases hq with
      | head => exact fun e => by rw [e] at hx; simp at hx
      | tail _ hq => exact E1n h q hq
theorem E1s {listed : Array Bool} {j : Nat} : ∀ {fs : List (Nat × Nat)}, (∀ q ∈ fs, q.1 ≠ j) → unf (listed.setIfInBounds j true) fs = unf listed fs
  | [], _ => rfl
  | q :: r, h => by
    simp only [unf]
    rw [getD_set_ne false (Ne.symm (h q List.mem_cons_self)), E1s fun x hx => h x (List.mem_cons_of_mem _ hx)]
def F22 (fs : List (Nat × Nat)) (n K N : Nat) : Bool :=
  V1h (fs.map (·.1)) && V1h (fs.map (·.2)) && fs.all fun q => Nat.blt q.1 n && Nat.ble K q.2 && Nat.blt q.2 N
theorem G25 {fs : List (Nat × Nat)} {n K N : Nat} (h : F22 fs n K N = true) : (∀ q ∈ fs, q.1 < n ∧ K ≤ q.2 ∧ q.2 < N) ∧ ∀ q ∈ fs, ∀ q' ∈ fs, (q.1 = q'.1 ∨ q.2 = q'.2) → q = q' := by
  simp only [F22, Bool.and_eq_true, List.all_eq_true] at h
  obtain ⟨⟨h1, h2⟩, h3⟩ := h
  have k1 := J17 h1
  have k2 := J17 h2
  refine ⟨fun q hq => ⟨Nat.le_of_ble_eq_true (h3 q hq).1.1, Nat.le_of_ble_eq_true (h3 q hq).1.2, Nat.le_of_ble_eq_true (h3 q hq).2⟩, ?_⟩
  have inj : ∀ {f : Nat × Nat → Nat} {l : List (Nat × Nat)}, (l.map f).Nodup → ∀ q ∈ l, ∀ q' ∈ l, f q = f q' → q = q' := by
    intro f l
    induction l with
    | nil => intro _ q hq; cases hq
    | cons x r ih =>
      intro hnd q hq q' hq' he
      rw [List.map_cons, List.nodup_cons] at hnd
      cases hq with
      | head =>
        cases hq' with
        | head => rfl
        | tail _ hq' => exact absurd (by rw [he]; exact List.mem_map_of_mem hq') hnd.1
      | tail _ hq =>
        cases hq' with
        | head => exact absurd (by rw [← he]; exact List.mem_map_of_mem hq) hnd.1
        | tail _ hq' => exact ih hnd.2 q hq q' hq' he
  intro q hq q' hq' he
  rcases he with he | he
  · exact inj k1 q hq q' hq' he
  · exact inj k2 q hq q' hq' he
theorem St.fillRow {C : Cx} {N : Nat} {M : Mem} {G : Nat → Value} {w : World} {env : Env} {H : T0} {a : Act} (h : St C N M G w env H a) {dst : Option Nat} (hd : ∀ d, dst = some d → d < N) {cs : List A} {vs : Array Value} {elem : TypeId} {p : Nat}
    (hp : H[p]? = some .dead) (hg : G p = .tuple #[]) (hc : Mn M G cs vs) {H' : T0} (hl : H'.length = H.length) (hH' : ∀ n, H'[n]? = if n = p then some (.row cs elem) else H[n]?) :
    St C N M (A7 G p (.pointer (some ⟨w.heap.size, 0, none⟩))) (w.alloc (.cells vs elem)) (put env dst (.ref p 0)) H' (a.put dst (.pointer (some ⟨w.heap.size, 0, none⟩))) := by
  have hmono : ∀ {x : A} {v : Value}, B1 M G x v → B1 M (A7 G p (.pointer (some ⟨w.heap.size, 0, none⟩))) x v := fun hr => hr.mono (fun _ _ e => e) fun o hn => R2 (fun e => hr.names hn (by rw [e]; exact hg))
  obtain ⟨h1, h2, h3⟩ := Ku (fun t => hmono (h.env t)) h.size hd (x := .ref p 0) (v := .pointer (some ⟨w.heap.size, 0, none⟩)) (.ref X2)
  have hpl : p < H.length := (List.getElem?_eq_some_iff.1 hp).1
  refine ⟨h.good.alloc _, h.gl.ext h.hrel (Zm J6 _ _ _) (fun _ h => h.elim), ⟨fun o x ho => ?_, fun o o' x x' b ho ho' hb hb' => ?_, fun o ho => ?_⟩, h1, h2, h3.trans h.defers⟩
  · rw [hH'] at ho
    by_cases hop : o = p
    · rw [if_pos hop] at ho
      cases ho
      subst hop
      rw [X2]
      exact ⟨w.heap.size, vs, rfl, heap_alloc_new w _, Nat.le_of_eq hc.1, hc.2.1, fun i x v a b => hmono (hc.2.2 i x v a b), fun off sp => by
        cases hM : M ⟨w.heap.size, off, sp⟩ with
        | none => rfl
        | some v => have := h.good.lt hM; simp at this⟩
    · rw [if_neg hop] at ho
      rw [R2 hop]
      have hob := h.hrel.obj o x ho
      have hk : Uh M G (w.alloc (.cells vs elem)) x (G o) := hob.keep (fun _ _ e => e) (fun b hb => heap_alloc_old w _ b (He hob hb)) (fun _ _ _ _ e => e)
      cases x with
      | dead => trivial
      | row cells e =>
        obtain ⟨b, us, g1, g2, g3, g4, g5, g6⟩ := hk
        exact ⟨b, us, g1, g2, g3, g4, fun i y v a c => hmono (g5 i y v a c), g6⟩
      | tok e sz => exact hk
      | map es =>
        obtain ⟨b, ms, cl, g1, g2, g3, g4, g5⟩ := hk
        exact ⟨b, ms, cl, g1, g2, g3, fun i k cs e a c => ⟨(g4 i k cs e a c).1, hmono (g4 i k cs e a c).2⟩, g5⟩
      | bld o' e =>
        obtain ⟨b, v0, g1, g2, g3, g4, g5⟩ := hk
        have ho' : o' ≠ p := fun e => g4 (by rw [e]; exact hg)
        exact ⟨b, v0, g1, by rw [R2 ho']; exact g2, g3, by rw [R2 ho']; exact g4, g5⟩
      | buf e sz => exact hk
  · have key : ∀ (o : Nat) x b, H'[o]? = some x → blk x (A7 G p (.pointer (some ⟨w.heap.size, 0, none⟩)) o) = some b → (o ≠ p ∧ H[o]? = some x ∧ blk x (G o) = some b ∧ b < w.heap.size) ∨ (o = p ∧ b = w.heap.size) := by
      intro o x b ho hb
      rw [hH'] at ho
      by_cases hop : o = p
      · rw [if_pos hop] at ho
        cases ho
        subst hop
        rw [X2] at hb
        simp [blk] at hb
        exact .inr ⟨rfl, hb.symm⟩
      · rw [if_neg hop] at ho
        rw [R2 hop] at hb
        exact .inl ⟨hop, ho, hb, He (h.hrel.obj o x ho) hb⟩
    rcases key o x b ho hb with ⟨q1, q2, q3, q4⟩ | ⟨q1, q2⟩ <;> rcases key o' x' b ho' hb' with ⟨p1, p2, p3, p4⟩ | ⟨p1, p2⟩
    · exact h.hrel.apart o o' x x' b q2 p2 q3 p3
    · omega
    · omega
    · omega
  · rw [hl] at ho
    rw [R2 (by omega)]
    exact h.hrel.fresh o ho
theorem M3.fillRow {fr : Fr} {M : Mem} {G : Nat → Value} {w : World} {H : T0} (h : M3 fr M G w H) {cs : List A} {vs : Array Value} {elem : TypeId} {p : Nat} (hK : fr.H0.length ≤ p) (hpl : p < H.length) {H' : T0} (hl : H'.length = H.length)
    (hH' : ∀ n, H'[n]? = if n = p then some (.row cs elem) else H[n]?) : M3 fr M (A7 G p (.pointer (some ⟨w.heap.size, 0, none⟩))) (w.alloc (.cells vs elem)) H' := by
  have hne : ∀ {o : Nat} {x : Ob}, fr.H0[o]? = some x → o ≠ p := fun ho e => by have := (List.getElem?_eq_some_iff.1 ho).1; omega
  refine ⟨h.ext.trans (Zm J6 _ _ _) (fun _ h => h.elim), fun b hb => ?_, by rw [hl]; exact h.len, fun o x ho ht => ?_, fun o x y ho ht hy => ?_⟩
  · obtain ⟨o, x, ho, hx⟩ := hb
    rw [hH'] at ho
    by_cases hop : o = p
    · rw [if_pos hop] at ho
      cases ho
      subst hop
      rw [X2] at hx
      simp [blk] at hx
      subst hx
      exact .inr h.ext.size
    · rw [if_neg hop] at ho
      rw [R2 hop] at hx
      exact h.own b ⟨o, x, ho, hx⟩
  · rw [R2 (hne ho)]
    exact h.keep o x ho ht
  · rw [hH', if_neg (hne ho)] at hy
    exact h.kind o x y ho ht hy
theorem St.pad {C : Cx} {N : Nat} {M : Mem} {G : Nat → Value} {w : World} {env : Env} {H : T0} {a : Act} (h : St C N M G w env H a) (k : Nat) : St C N M G w env (H ++ List.replicate k .dead) a := by
  have get : ∀ (o : Nat) x, (H ++ List.replicate k Ob.dead)[o]? = some x → H[o]? = some x ∨ x = .dead := fun o x ho => by
    by_cases hlt : o < H.length
    · rw [List.getElem?_append_left hlt] at ho; exact .inl ho
    · rw [List.getElem?_append_right (by omega), List.getElem?_replicate] at ho
      split at ho
      · cases ho; exact .inr rfl
      · cases ho
  refine ⟨h.good, h.gl, ⟨fun o x ho => ?_, fun o o' x x' b ho ho' hb hb' => ?_, fun o ho => h.hrel.fresh o (by simp at ho; omega)⟩, h.env, h.size, h.defers⟩
  · rcases get o x ho with h1 | rfl
    · exact h.hrel.obj o x h1
    · trivial
  · rcases get o x ho with h1 | rfl
    · rcases get o' x' ho' with h2 | rfl
      · exact h.hrel.apart o o' x x' b h1 h2 hb hb'
      · simp [blk] at hb'
    · simp [blk] at hb
theorem M3.pad {fr : Fr} {M : Mem} {G : Nat → Value} {w : World} {H : T0} (h : M3 fr M G w H) (k : Nat) : M3 fr M G w (H ++ List.replicate k .dead) := by
  refine ⟨h.ext, fun b hb => ?_, by simp; have := h.len; omega, h.keep, fun o x y ho ht hy => ?_⟩
  · obtain ⟨o, x, ho, hx⟩ := hb
    by_cases hlt : o < H.length
    · rw [List.getElem?_append_left hlt] at ho; exact h.own b ⟨o, x, ho, hx⟩
    · rw [List.getElem?_append_right (by omega), List.getElem?_replicate] at ho
      split at ho
      · cases ho; simp [blk] at hx
      · cases ho
  · have hlt : o < H.length := Nat.lt_of_lt_of_le (List.getElem?_eq_some_iff.1 ho).1 h.len
    rw [List.getElem?_append_left hlt] at hy
    exact h.kind o x y ho ht hy
theorem M3.step {fr : Fr} {M M' : Mem} {G G' : Nat → Value} {w w' : World} {H H' : T0} (h : M3 fr M G w H) (h' : M3 ⟨H, G, M, w⟩ M' G' w' H') : M3 fr M' G' w' H' := by
  refine ⟨h.ext.trans h'.ext (fun b hb => h.own b hb), fun b hb => ?_, Nat.le_trans h.len h'.len, fun o x ho ht => ?_, fun o x y ho ht hy => ?_⟩
  · rcases h'.own b hb with h1 | h1
    · exact h.own b h1
    · exact .inr (Nat.le_trans h.ext.size h1)
  · have hlt : o < H.length := Nat.lt_of_lt_of_le (List.getElem?_eq_some_iff.1 ho).1 h.len
    have hz := List.getElem?_eq_getElem hlt
    exact (h'.keep o _ hz (h.kind o x _ ho ht hz)).trans (h.keep o x ho ht)
  · have hlt : o < H.length := Nat.lt_of_lt_of_le (List.getElem?_eq_some_iff.1 ho).1 h.len
    have hz := List.getElem?_eq_getElem hlt
    exact h'.kind o _ y hz (h.kind o x _ ho ht hz) hy
theorem M3.refl {M : Mem} {G : Nat → Value} {w : World} {H : T0} : M3 ⟨H, G, M, w⟩ M G w H :=
  ⟨Ext.refl _ _ _, fun _ hb => .inl hb, Nat.le_refl _, fun _ _ _ _ => rfl, fun o x y ho ht hy => by
    have : x = y := Option.some.inj (ho.symm.trans hy)
    rwa [← this]⟩
theorem L1y {listed : Array Bool} {fs : List (Nat × Nat)} (h : ∀ q ∈ fs, listed.getD q.1 false = true) : unf listed fs = [] := by
  rw [List.eq_nil_iff_forall_not_mem]
  intro p hp
  obtain ⟨q, hq, _, hf⟩ := Sx.1 hp
  rw [h q hq] at hf
  cases hf
theorem AEx.drawL {F : Fx} (hC : B2 F.C) {id : Nat} {L : List Oper} {env : Env} {H : T0} {Q : Po} (n : Nat) (ls : List Nat) (fs : List (Nat × Nat)) (Hs : List T0) (hd : L.all (Nl F.N) = true) (hok : U1m L n = true) (hnl : Nat.ble n L.length = true) (hlo : B22 L ls n = true)
    {H0 : T0} (hH0 : nth Hs 0 = some H0) (hfo : F22 fs n H.length H0.length = true) (hpad : H4 (fs.map (·.2)) H0 = H ++ List.replicate fs.length .dead) (hll : (Hs.all fun K => Nat.ble H0.length K.length) = true) (hHl : Hs.length = ls.length + 1) {Hm : T0} (hHm : nth Hs ls.length = some Hm)
    (h : AS F L ls fs Hs 0 0 (L.take n) env (fun env' => I0 F L (L.drop n) env' Hm (Zz Q))) : AEx F (.region id L.toArray true) env H Q := by
  obtain ⟨hfl, hfu⟩ := G25 hfo
  have hn := Nat.le_of_ble_eq_true hnl
  have hdst : ∀ (i : Nat) o, L[i]? = some o → Nl F.N o = true := fun i o ho => List.all_eq_true.1 hd o (List.mem_of_getElem? ho)
  obtain ⟨out, houts, hQ⟩ := h.outs hn
  obtain ⟨hback, hwait⟩ := Y1q hok
  obtain ⟨hln, hlw⟩ := F25 hlo
  let Hf : Nat → T0 := fun k => (Hs[k]?).getD []
  have hHf : ∀ k, k ≤ ls.length → Hs[k]? = some (Hf k) := fun k hk => by
    have hlt : k < Hs.length := by omega
    simp only [Hf, List.getElem?_eq_getElem hlt, Option.getD_some]
  rw [F3] at hH0 hHm
  have hf0 : Hf 0 = H0 := by simp only [Hf, hH0, Option.getD_some]
  have hfm : Hf ls.length = Hm := by simp only [Hf, hHm, Option.getD_some]
  have hlen : ∀ k, k ≤ ls.length → ∀ p, p < H0.length → p < (Hf k).length := fun k hk p hp => by
    have := Nat.le_of_ble_eq_true (List.all_eq_true.1 hll _ (List.mem_of_getElem? (hHf k hk)))
    omega
  intro fr M G w act hK hs hsi
  have hbase := hsi.len
  let Qw : Exit → Act → World → Prop := Fin F fr Q
  have hsz : L.toArray.size = L.length := by simp
  have tail : ∀ (m k : Nat) (listed : Array Bool) (a : Act) (w : World), k + m = L.length → n ≤ k → M1p L n listed → (∀ i, i < k → listed.getD i false = true) → (∀ i, k ≤ i → i < L.length → listed.getD i true = false) →
      wpList F.C.P L.toArray Qw (L.drop k) a w → wpAny F.C.P .any L.toArray Qw m listed a w := by
    intro m
    induction m with
    | zero =>
      intro k listed a w hk _ hD h1 _ hw
      have hk' : k = L.length := by omega
      have hready : Region.ready .any L.toArray listed = [] := by
        rw [List.eq_nil_iff_forall_not_mem]
        intro j hj
        obtain ⟨hu, o, ho, _⟩ := mem_ready.1 hj
        have hj' : j < L.length := by simpa using (Array.getElem?_eq_some_iff.1 ho).1
        have := h1 j (by omega)
        rw [Zg hu] at this
        cases this
      rw [List.drop_eq_nil_of_le (by omega)] at hw
      exact ⟨hready, hw⟩
    | succ m ih =>
      intro k listed a w hk hnk hD h1 h2 hw
      have hkl : k < L.length := by omega
      have hko : L[k]? = some L[k] := List.getElem?_eq_getElem hkl
      have hkr : k ∈ Region.ready .any L.toArray listed := mem_ready.2 ⟨h2 k (Nat.le_refl _) hkl, L[k], (by simp [hkl]), fun e he hb => h1 e.on (hback k _ hko e he hb)⟩
      refine ⟨fun h0 => (by rw [h0] at hkr; cases hkr), fun j hj => ?_⟩
      obtain ⟨hu, o, ho, hall⟩ := mem_ready.1 hj
      have hjl : j < L.length := by simpa using (Array.getElem?_eq_some_iff.1 ho).1
      have hjk : j = k := by
        rcases Nat.lt_trichotomy j k with hlt | he | hgt
        · have := h1 j hlt; rw [Zg hu] at this; cases this
        · exact he
        · have hw' := hwait k j hgt hjl (.inr (by omega))
          have := Gk hD.closed (by simpa using ho) (fun e he hb => hall e he hb) L.length k hw'
          rw [Zg (h2 k (Nat.le_refl _) hkl)] at this
          cases this
      subst hjk
      rw [List.drop_eq_getElem_cons hkl] at hw
      have hwp : wpOp F.C.P L.toArray Qw j (wpList F.C.P L.toArray Qw (L.drop (j + 1))) a w := by
        unfold wpOp
        simp only [List.getElem?_toArray, hko]
        exact hw
      refine wpOp_mono (fun a' w' hw' => ih (j + 1) _ a' w' (by omega) (by omega) ⟨by simp [hD.size], fun i o' ho' hl e he hb => ?_⟩ (fun i hi => ?_) (fun i hi hi' => ?_) hw') hwp
      · by_cases hij : j = i
        · subst hij
          have : o' = o := Option.some.inj (ho'.symm.trans (by simpa using ho))
          subst this
          exact getD_set_true (hall e he hb)
        · rw [getD_set_ne false hij] at hl
          exact getD_set_true (hD.closed i o' ho' hl e he hb)
      · by_cases hij : j = i
        · subst hij
          simp [hD.size, hkl]
        · rw [getD_set_ne false hij]
          exact h1 i (by omega)
      · rw [getD_set_ne true (by omega)]
        exact h2 i (by omega) hi'
  have head : ∀ (m : Nat) (listed : Array Bool) (M : Mem) (G : Nat → Value) (w : World) (a : Act), listed.toList.count true + m = L.length → M1p L n listed → (∀ i, n ≤ i → i < L.length → listed.getD i true = false) →
      (∀ p ∈ unf listed fs, G p = .tuple #[]) → St F.C F.N M G w (V2 L env out (fun i => listed.getD i false) n) (H4 (unf listed fs) (Hf (Ia ls listed))) a → M3 fr M G w (H4 (unf listed fs) (Hf (Ia ls listed))) → wpAny F.C.P .any L.toArray Qw m listed a w := by
    intro m
    induction m with
    | zero =>
      intro listed M G w a hm hD htl hem hs hsi
      have hall := W1t hD.size (by omega)
      have hnL : n = L.length := by
        rcases Nat.lt_or_ge n L.length with h' | h'
        · have := hall n h'
          rw [Zg (htl n (Nat.le_refl _) h')] at this
          cases this
        · omega
      have henv : V2 L env out (fun i => listed.getD i false) n = V2 L env out (fun _ => true) n := by
        funext t
        simp only [V2]
        rw [Mb fun i hi _ => hall i (by omega)]
      have hc : Ia ls listed = ls.length := C22 fun l hl => hall l (by have := hln l hl; omega)
      rw [hc, hfm, L1y fun q hq => hall q.1 (by have := (hfl q hq).1; omega), Z21] at hs hsi
      rw [henv] at hs
      refine tail 0 n listed a w (by omega) (Nat.le_refl _) hD (fun i hi => hall i (by omega)) (fun i h1 h2 => by omega) ?_
      exact hQ fr M G w a Qw hK (fun o ho => List.all_eq_true.1 hd o (List.mem_of_mem_drop ho)) hs hsi fun env' H' M' G' w' a' hq hs' hsi' => ⟨.normal, _, _, _, _, rfl, hq, hs', hsi'⟩
    | succ m ih =>
      intro listed M G w a hm hD htl hem hs hsi
      by_cases hdone : ∀ i, i < n → listed.getD i false = true
      ·
        have henv : V2 L env out (fun i => listed.getD i false) n = V2 L env out (fun _ => true) n := by
          funext t
          simp only [V2]
          rw [Mb fun i hi _ => hdone i hi]
        have hc : Ia ls listed = ls.length := C22 fun l hl => hdone l (hln l hl)
        rw [hc, hfm, L1y fun q hq => hdone q.1 (hfl q hq).1, Z21] at hs hsi
        rw [henv] at hs
        have hcount : listed.toList.count true = n := by
          have hl : listed.toList = List.replicate n true ++ List.replicate (L.length - n) false := by
            apply List.ext_getElem?
            intro i
            by_cases hi : i < n
            · have hv := hdone i hi
              have hi' : i < listed.size := by rw [hD.size]; omega
              rw [List.getElem?_append_left (by simpa using hi), List.getElem?_replicate, if_pos hi, Array.getElem?_toList]
              simpa [hi'] using hv
            · by_cases hi2 : i < L.length
              · have hv := htl i (by omega) hi2
                have hi' : i < listed.size := by rw [hD.size]; omega
                rw [List.getElem?_append_right (by simp; omega), List.getElem?_replicate, if_pos (by simp; omega), Array.getElem?_toList]
                simpa [hi'] using hv
              · rw [List.getElem?_eq_none (by simp [hD.size]; omega), List.getElem?_eq_none (by simp; omega)]
          rw [hl, List.count_append, List.count_replicate, List.count_replicate]
          simp
        refine tail (m + 1) n listed a w (by omega) (Nat.le_refl _) hD hdone htl ?_
        exact hQ fr M G w a Qw hK (fun o ho => List.all_eq_true.1 hd o (List.mem_of_mem_drop ho)) hs hsi fun env' H' M' G' w' a' hq hs' hsi' => ⟨.normal, _, _, _, _, rfl, hq, hs', hsi'⟩
      ·
        have hex : ∃ i, i < n ∧ listed.getD i false = false ∧ ∀ k, k < i → listed.getD k false = true := by
          have : ∃ i, i < n ∧ listed.getD i false = false := by
            rcases Classical.em (∃ i, i < n ∧ listed.getD i false = false) with h' | h'
            · exact h'
            · refine absurd (fun i hi => ?_) hdone
              cases hv : listed.getD i false with
              | true => rfl
              | false => exact absurd ⟨i, hi, hv⟩ h'
          obtain ⟨i, hi⟩ := this
          induction i using Nat.strongRecOn with
          | _ i ihi =>
            by_cases hk : ∃ k, k < i ∧ listed.getD k false = false
            · obtain ⟨k, hk1, hk2⟩ := hk
              exact ihi k hk1 ⟨by omega, hk2⟩
            · refine ⟨i, hi.1, hi.2, fun k hk' => ?_⟩
              cases hv : listed.getD k false with
              | true => rfl
              | false => exact absurd ⟨k, hk', hv⟩ hk
        obtain ⟨i0, hi0, hu0, hbelow⟩ := hex
        have hi0l : i0 < L.length := by omega
        have hi0o : L[i0]? = some L[i0] := List.getElem?_eq_getElem hi0l
        have hu0' : listed.getD i0 true = false := by
          have hi' : i0 < listed.size := by rw [hD.size]; omega
          simpa [hi'] using hu0
        have hr0 : i0 ∈ Region.ready .any L.toArray listed := mem_ready.2 ⟨hu0', L[i0], (by simp [hi0l]), fun e he hb => hbelow e.on (hback i0 _ hi0o e he hb)⟩
        refine ⟨fun h0 => (by rw [h0] at hr0; cases hr0), fun j hj => ?_⟩
        obtain ⟨hu, o, ho, hall⟩ := mem_ready.1 hj
        have hoL : L[j]? = some o := by simpa using ho
        have hjl : j < L.length := (List.getElem?_eq_some_iff.1 hoL).1
        have hjn : j < n := by
          rcases Nat.lt_or_ge j n with h' | h'
          · exact h'
          · have hw' := hwait i0 j (by omega) hjl (.inr h')
            have := Gk hD.closed hoL (fun e he hb => hall e he hb) L.length i0 hw'
            rw [hu0] at this
            cases this
        have hclash : ∀ k, k ≠ j → k < L.length → (Fk L k j = true ∨ Fk L j k = true) → (listed.getD k false = true ↔ k < j) := by
          intro k hkj hkl hc
          rcases Nat.lt_or_ge k j with hlt | hge
          · refine ⟨fun _ => hlt, fun _ => ?_⟩
            have hcc : Fk L k j = true := by
              rcases hc with hc | hc
              · exact hc
              · exact T1b hc
            exact Gk hD.closed hoL (fun e he hb => hall e he hb) L.length k (hwait k j hlt hjl (.inl hcc))
          · refine ⟨fun hl => ?_, fun h' => by omega⟩
            have hcc : Fk L j k = true := by
              rcases hc with hc | hc
              · exact T1b hc
              · exact hc
            have := Lr hD.closed L.length k j (hwait j k (by omega) hkl (.inl hcc)) hl
            rw [Zg hu] at this
            cases this
        have hread : ∀ t ∈ Lc L o, V2 L env out (fun i => listed.getD i false) n t = V2 L env out (fun _ => true) j t := by
          intro t ht
          have hw : ∀ k, k ≠ j → (L[k]?).bind (·.dst) = some t → Fk L k j = true := by
            intro k hkj hk
            unfold Fk
            simp only [F3, hoL]
            cases hk' : L[k]? with
            | none => rw [hk'] at hk; cases hk
            | some p =>
              rw [hk'] at hk
              simp only [Option.bind_some] at hk
              simp only [hk]
              have : (Lc L o).contains t = true := by simpa using ht
              rw [this]
              simp
          have hlt : ∀ k, (L[k]?).bind (·.dst) = some t → k < L.length := by
            intro k hk
            cases hk' : L[k]? with
            | none => rw [hk'] at hk; cases hk
            | some p => exact (List.getElem?_eq_some_iff.1 hk').1
          simp only [V2]
          have e1 : G6 L (fun i => listed.getD i false) t n = G6 L (fun i => decide (i < j)) t n := Mb fun k hk hkd => by
            by_cases hkj : k = j
            · subst hkj
              simp [Zg hu]
            · have := hclash k hkj (hlt k hkd) (.inl (hw k hkj hkd))
              cases hb : listed.getD k false with
              | true => simp [this.1 hb]
              | false =>
                have : ¬ k < j := fun h' => by rw [this.2 h'] at hb; cases hb
                simp [this]
          have e2 : G6 L (fun i => decide (i < j)) t n = G6 L (fun i => decide (i < j)) t j := Y17 (by omega) fun k h1 h2 _ => by simp; omega
          have e3 : G6 L (fun i => decide (i < j)) t j = G6 L (fun _ => true) t j := Mb fun k hk _ => by simp [hk]
          rw [e1, e2, e3]
        have hafter : V2 L env out (fun i => (listed.setIfInBounds j true).getD i false) n = put (V2 L env out (fun i => listed.getD i false) n) o.dst (out j) := by
          have hjs : j < listed.size := by rw [hD.size]; exact hjl
          have Ha : ∀ k, (listed.setIfInBounds j true).getD k false = (decide (k = j) || listed.getD k false) := by
            intro k
            by_cases hk : j = k
            · subst hk; simp [hjs]
            · rw [getD_set_ne false hk]
              have : ¬ k = j := fun h' => hk h'.symm
              simp [this]
          funext t
          simp only [V2, Ha]
          cases hdo : o.dst with
          | none =>
            have : G6 L (fun i => decide (i = j) || listed.getD i false) t n = G6 L (fun i => listed.getD i false) t n := Mb fun k hk hkd => by
              have : k ≠ j := fun h' => by subst h'; rw [hoL] at hkd; simp [hdo] at hkd
              simp [this]
            rw [this]
            rfl
          | some d =>
            simp only [put, upd]
            by_cases htd : t = d
            · subst htd
              have hbt : Nat.beq t t = true := by simp
              rw [hbt, _root_.cond_true]
              have e1 : G6 L (fun i => decide (i = j) || listed.getD i false) t n = G6 L (fun i => decide (i = j) || listed.getD i false) t (j + 1) := Y17 (by omega) fun k h1 h2 hkd => by
                have hkj : k ≠ j := by omega
                have hcl : Fk L k j = true := by
                  unfold Fk
                  cases hk' : L[k]? with
                  | none => rw [hk'] at hkd; cases hkd
                  | some p =>
                    rw [hk'] at hkd
                    simp only [Option.bind_some] at hkd
                    simp only [F3, hoL, hk', hkd, hdo]
                    simp
                have := hclash k hkj (by omega) (.inl hcl)
                cases hb : listed.getD k false with
                | false => simp [hkj]
                | true => have := this.1 hb; omega
              rw [e1]
              simp [G6, hoL, hdo]
            · have : Nat.beq t d = false := by
                cases hb : Nat.beq t d with
                | false => rfl
                | true => exact absurd (Nat.eq_of_beq_eq_true hb) htd
              rw [this, _root_.cond_false]
              have : G6 L (fun i => decide (i = j) || listed.getD i false) t n = G6 L (fun i => listed.getD i false) t n := Mb fun k hk hkd => by
                have : k ≠ j := fun h' => by subst h'; rw [hoL] at hkd; simp [hdo] at hkd; exact htd hkd.symm
                simp [this]
              rw [this]
              rfl
        have hD' : M1p L n (listed.setIfInBounds j true) := ⟨by simp [hD.size], fun i o' ho' hl e he hb => by
          by_cases hij : j = i
          · subst hij
            have : o' = o := Option.some.inj (ho'.symm.trans hoL)
            subst this
            exact getD_set_true (hall e he hb)
          · rw [getD_set_ne false hij] at hl
            exact getD_set_true (hD.closed i o' ho' hl e he hb)⟩
        have htl' : ∀ i, n ≤ i → i < L.length → (listed.setIfInBounds j true).getD i true = false := fun i h1 h2 => by
          rw [getD_set_ne true (by omega)]
          exact htl i h1 h2
        have hcnt : (listed.setIfInBounds j true).toList.count true + m = L.length := by rw [count_set hu]; omega
        have hwcongr : K1 L (V2 L env out (fun i => listed.getD i false) n) o = K1 L (V2 L env out (fun _ => true) j) o := Vt hread
        have hev : ∀ y ∈ o.op.operands, ev F.C.GL (V2 L env out (fun i => listed.getD i false) n) y = ev F.C.GL (V2 L env out (fun _ => true) j) y := by
          intro y hy
          refine H16 fun t ht => hread t ?_
          subst ht
          simp only [Lc, List.mem_append, List.mem_filterMap]
          exact .inl ⟨.tmp t, by simpa using hy, rfl⟩
        have hjs : j < listed.size := by rw [hD.size]; exact hjl
        have hunw : ∀ p ∈ unf listed fs, p ∈ unw L fs j := fun p hp => by
          obtain ⟨q, hq, he, hf⟩ := Sx.1 hp
          refine O1w.2 ⟨q, hq, he, ?_⟩
          cases hb : Mo L L.length j q.1 with
          | false => rfl
          | true => rw [Gk hD.closed hoL (fun e he hb => hall e he hb) L.length q.1 hb] at hf; cases hf
        rcases houts j o hjn hoL with ⟨hnl', hfp, hq⟩ | ⟨s, H1, H2, hs1, hfp, hw, hs2, hs3, hl⟩ | ⟨t, cs, p, hfp, hnl', hw, hfl', hrow, hx⟩
        · have hcs : Ia ls (listed.setIfInBounds j true) = Ia ls listed := D1n (by simpa using hnl')
          have hus : unf (listed.setIfInBounds j true) fs = unf listed fs := E1s (E1n hfp)
          have hlo' : loN L ls j ≤ Ia ls listed := by
            unfold loN Ia
            rw [← List.countP_eq_length_filter, ← List.countP_eq_length_filter]
            exact List.countP_mono_left fun l _ hl => Gk hD.closed hoL (fun e he hb => hall e he hb) L.length l hl
          have hle : Ia ls listed ≤ ls.length := List.length_filter_le _ _
          have hmem : Hf (Ia ls listed) ∈ Hs.drop (loN L ls j) := by
            refine List.mem_of_getElem? (i := Ia ls listed - loN L ls j) ?_
            rw [List.getElem?_drop, show loN L ls j + (Ia ls listed - loN L ls j) = Ia ls listed by omega]
            exact hHf _ hle
          unfold wpOp
          simp only [List.getElem?_toArray, hoL]
          rcases hq _ hmem _ hunw with ⟨hw, hy⟩ | ⟨hw, hx⟩
          · rw [Rp hs (hwcongr.trans hw)]
            simp only [if_true]
            refine .inl (hy M G w a _ Qw (fun y hyo => by rw [← hev y hyo]; exact hs.eval y) hs.good hs.gl hs.hrel fun v M' w' h1 h2 h3 => ?_)
            refine ih _ M' G w' _ hcnt hD' htl' (by rw [hus]; exact hem) ?_ (by rw [hcs, hus]; exact hsi.quiet h3)
            rw [hafter, hcs, hus]
            exact hs.quiet (Q4 (hdst j o hoL)) h1 h2 h3
          · rw [Rp hs (hwcongr.trans hw)]
            simp only [Bool.false_eq_true, if_false]
            refine ih _ M G w _ hcnt hD' htl' (by rw [hus]; exact hem) ?_ (by rw [hcs, hus]; exact hsi)
            rw [hafter, hx, hcs, hus]
            exact hs.quiet (Q4 (hdst j o hoL)) (.tup rfl fun i x v h => by simp at h) hs.good (Ext.refl _ _ _)
        · have hsj : ls[s]? = some j := hs1
          have hcs : Ia ls listed = s := K26 hsj (fun k l hk hl => Gk hD.closed hoL (fun e he hb => hall e he hb) L.length l (hlw s k j l hsj hl hk).2) (fun k l hk hl => by
            cases hv : listed.getD l false with
            | false => rfl
            | true =>
              rcases Nat.lt_or_ge s k with hlt | hge
              · have := Lr hD.closed L.length l j (hlw k s l j hl hsj hlt).2 hv
                rw [Zg hu] at this; cases this
              · have : k = s := by omega
                subst this
                rw [hsj] at hl
                cases hl
                rw [Zg hu] at hv; cases hv)
          have hcs' : Ia ls (listed.setIfInBounds j true) = s + 1 := by rw [← hcs]; exact D22 (fun a b x y h1 h2 h3 => by have := (hlw b a y x h2 h1 h3).1; omega) hsj (Zg hu) hjs
          have hsl : s < ls.length := (List.getElem?_eq_some_iff.1 hsj).1
          have e1 : Hf s = H1 := Option.some.inj ((hHf s (by omega)).symm.trans hs2)
          have e2 : Hf (s + 1) = H2 := Option.some.inj ((hHf (s + 1) (by omega)).symm.trans hs3)
          have hus : unf (listed.setIfInBounds j true) fs = unf listed fs := E1s (E1n hfp)
          rw [hcs, e1] at hs hsi
          have hop := hl _ hunw (V2 L env out (fun i => listed.getD i false) n) (H4 (unf listed fs) H1).length hread (fun e h => e = V2 L env out (fun i => (listed.setIfInBounds j true).getD i false) n ∧ h = H4 (unf listed fs) H2) ⟨hafter.symm, rfl⟩
          let Qw' : Exit → Act → World → Prop := fun e a w => match e with
            | .normal => wpAny F.C.P .any L.toArray Qw m (listed.setIfInBounds j true) a w
            | e => Fin F fr Q e a w
          have := hop ⟨H4 (unf listed fs) H1, G, M, w⟩ M G w a Qw' rfl (fun o' ho' => by
            rw [List.mem_singleton] at ho'
            subst ho'
            exact hdst j _ hoL) hs .refl (fun env' H' M' G' w' a' hq hs' hsi' => by
              obtain ⟨rfl, rfl⟩ := hq
              refine ih _ M' G' w' a' hcnt hD' htl' (by
                rw [hus]
                intro p hp
                obtain ⟨q, hq1, hq2, hq3⟩ := Sx.1 hp
                have hlt : p < (H4 (unf listed fs) H1).length := by
                  rw [Sc, ← e1]
                  exact hlen s (by omega) p (hq2 ▸ (hfl q hq1).2.2)
                have hdead : (H4 (unf listed fs) H1)[p]? = some .dead := by
                  rw [Sc] at hlt
                  rw [Pg, List.getElem?_eq_getElem hlt]
                  have : (unf listed fs).contains p = true := by simpa using hp
                  simp only [Option.map_some, this, _root_.cond_true]
                exact (hsi'.keep p _ hdead rfl).trans (hem p hp)) ?_ ?_
              · rw [hcs', e2, hus]; exact hs'
              · rw [hcs', e2, hus]; exact hsi.step hsi')
          simp only [wpList] at this
          unfold wpOp
          simp only [List.getElem?_toArray, hoL]
          have hout : LetsOut Qw' → LetsOut (Fin F fr Q) := fun ⟨a, w, h⟩ => ⟨a, w, h⟩
          split
          · rename_i hw
            rw [if_pos hw] at this
            rcases this with h1 | ⟨h1, h2⟩
            · exact .inl (C1y (fun c a w h => h) hout h1)
            · exact .inr ⟨h1, hout h2⟩
          · rename_i hw
            rw [if_neg hw] at this
            exact this
        · have hcs : Ia ls (listed.setIfInBounds j true) = Ia ls listed := D1n (by simpa using hnl')
          have hle : Ia ls listed ≤ ls.length := List.length_filter_le _ _
          have hjp := K1y hfp
          obtain ⟨f1, f2, f3⟩ := hfl _ hjp
          have hhi : Ia ls listed ≤ hiN L ls j := by
            unfold hiN Ia
            rw [← List.countP_eq_length_filter, ← List.countP_eq_length_filter]
            refine List.countP_mono_left fun l _ hl => ?_
            cases hb : Mo L L.length l j with
            | false => rfl
            | true =>
              have := Lr hD.closed L.length l j hb hl
              rw [Zg hu] at this; cases this
          have hmem : Hf (Ia ls listed) ∈ Hs.take (hiN L ls j + 1) := by
            refine List.mem_of_getElem? (i := Ia ls listed) ?_
            rw [List.getElem?_take, if_pos (by omega)]
            exact hHf _ hle
          have hr := hrow _ hmem
          rw [F3] at hr
          have hpu : p ∈ unf listed fs := Sx.2 ⟨_, hjp, rfl, Zg hu⟩
          have hbef : (H4 (unf listed fs) (Hf (Ia ls listed)))[p]? = some .dead := by
            rw [Pg, hr]
            have : (unf listed fs).contains p = true := by simpa using hpu
            simp only [Option.map_some, this, _root_.cond_true]
          have hmemu : ∀ r, r ∈ unf (listed.setIfInBounds j true) fs ↔ r ∈ unf listed fs ∧ r ≠ p := by
            intro r
            rw [Sx, Sx]
            constructor
            · rintro ⟨q, q1, q2, q3⟩
              have hne : j ≠ q.1 := fun e => by rw [← e] at q3; simp [hjs] at q3
              rw [getD_set_ne false hne] at q3
              exact ⟨⟨q, q1, q2, q3⟩, fun e => hne (by rw [hfu q q1 _ hjp (.inr (by rw [q2, e]))])⟩
            · rintro ⟨⟨q, q1, q2, q3⟩, hne⟩
              refine ⟨q, q1, q2, ?_⟩
              rw [getD_set_ne false fun e => hne (by rw [← q2, hfu q q1 _ hjp (.inl e.symm)])]
              exact q3
          have haft : ∀ r, (H4 (unf (listed.setIfInBounds j true) fs) (Hf (Ia ls listed)))[r]? = if r = p then some (.row cs t) else (H4 (unf listed fs) (Hf (Ia ls listed)))[r]? := by
            intro r
            rw [Pg, Pg]
            by_cases hrp : r = p
            · subst hrp
              rw [if_pos rfl, hr]
              have : (unf (listed.setIfInBounds j true) fs).contains r = false := by
                cases hb : (unf (listed.setIfInBounds j true) fs).contains r with
                | false => rfl
                | true => exact absurd rfl ((hmemu r).1 (by simpa using hb)).2
              simp only [Option.map_some, this, _root_.cond_false]
            · rw [if_neg hrp]
              have : (unf (listed.setIfInBounds j true) fs).contains r = (unf listed fs).contains r := by
                rw [Bool.eq_iff_iff]
                simp only [List.contains_iff_mem, hmemu r]
                exact ⟨fun h => h.1, fun h => ⟨h, hrp⟩⟩
              rw [this]
          obtain ⟨vs, hv, hrun⟩ := hfl' _ _ M G w a hread hs
          have hd' : ∀ d, o.dst = some d → d < F.N := Q4 (hdst j o hoL)
          unfold wpOp
          simp only [List.getElem?_toArray, hoL]
          rw [Rp hs (hwcongr.trans hw)]
          simp only [if_true]
          refine .inl ?_
          unfold Oper.wp
          rw [hrun]
          refine ih _ M (A7 G p (.pointer (some ⟨w.heap.size, 0, none⟩))) (w.alloc (.cells vs t)) _ hcnt hD' htl' (fun r hr' => ?_) ?_ ?_
          · obtain ⟨r1, r2⟩ := (hmemu r).1 hr'
            rw [R2 r2]
            exact hem r r1
          · rw [hafter, hcs, hx]
            exact hs.fillRow hd' hbef (hem p hpu) hv (by rw [Sc, Sc]) haft
          · rw [hcs]
            exact hsi.fillRow (cs := cs) (p := p) (by omega) (List.getElem?_eq_some_iff.1 hbef).1 (by rw [Sc, Sc]) haft
  refine wp_region_any hC.mixed ?_
  have h0 : ∀ i, (Array.replicate L.toArray.size false).getD i false = false := fun i => by
    rcases Nat.lt_or_ge i L.length with h' | h' <;> simp [h']
  have hc0 : Ia ls (Array.replicate L.toArray.size false) = 0 := Y2b h0
  have hu0 : unf (Array.replicate L.toArray.size false) fs = fs.map (·.2) := by
    have : ∀ fs : List (Nat × Nat), unf (Array.replicate L.toArray.size false) fs = fs.map (·.2) := by
      intro fs
      induction fs with
      | nil => rfl
      | cons q r ih => simp only [unf, h0, _root_.cond_false, ih, List.map_cons]
    exact this fs
  have hs' : St F.C F.N M G { w with drawn := w.drawn + 1 } env H act :=
    ⟨fun a v e => hs.good a v e, hs.gl.ext hs.hrel (S := J6) ⟨fun _ _ e => e, Nat.le_refl _, rfl, rfl, rfl, fun _ _ _ => rfl, fun _ _ e => .inl e⟩ (fun _ h => h.elim), hs.hrel.ext (S := J6) ⟨fun _ _ e => e, Nat.le_refl _, rfl, rfl, rfl, fun _ _ _ => rfl, fun _ _ e => .inl e⟩ (fun _ _ h => h), hs.env, hs.size, hs.defers⟩
  have hsi' : M3 fr M G { w with drawn := w.drawn + 1 } H := hsi.quiet ⟨fun _ _ e => e, Nat.le_refl _, rfl, rfl, rfl, fun _ _ _ => rfl, fun _ _ e => .inl e⟩
  have henv0 : V2 L env out (fun i => (Array.replicate L.toArray.size false).getD i false) n = env := by
    funext t
    simp only [V2]
    cases hl : G6 L (fun i => (Array.replicate L.toArray.size false).getD i false) t n with
    | none => rfl
    | some i => have := (P11 hl).2.1; rw [h0] at this; cases this
  have := head L.length (Array.replicate L.toArray.size false) M G _ act (by simp [List.count_replicate]) ⟨by simp, fun j o ho hl => by rw [h0] at hl; cases hl⟩ (fun i h1 h2 => by simp [h2])
    (fun p hp => by
      obtain ⟨q, q1, q2, _⟩ := Sx.1 hp
      exact hs.hrel.fresh p (by have := (hfl q q1).2.1; omega))
    (by rw [henv0, hc0, hf0, hu0, hpad]; exact hs'.pad _) (by rw [hc0, hf0, hu0, hpad]; exact hsi'.pad _)
  rw [hsz]
  rw [hsz] at this
  exact this
end Go.Am

namespace Go.Am
def E1i (C : Cx) (L : List Oper) (o : Oper) (env : Env) (ps : List Nat) : List T0 → List (Option (Option Nat × Prop × A))
  | [] => []
  | H :: r => Om C L o env (H4 ps H) :: E1i C L o env ps r
def S1p (x : Option (Option Nat × Prop × A)) : List T0 → List (Option (Option Nat × Prop × A))
  | [] => []
  | _ :: r => x :: S1p x r
theorem Y1j {C : Cx} {L : List Oper} {o : Oper} {env : Env} {ps : List Nat} {x : Option (Option Nat × Prop × A)} : ∀ {Hs : List T0}, E1i C L o env ps Hs = S1p x Hs → ∀ H ∈ Hs, Om C L o env (H4 ps H) = x
  | [], _, H, h => by cases h
  | K :: r, h, H, hm => by
    simp only [E1i, S1p, List.cons.injEq] at h
    cases hm with
    | head => exact h.1
    | tail _ hm => exact Y1j h.2 H hm
theorem X28 {i : TI} {x : A} {H : T0} {ps ps0 : List Nat} (hps : ∀ p ∈ ps, p ∈ ps0) {y : A} (h : Kh i x (H4 ps0 H) = some y) : Kh i x (H4 ps H) = some y := by
  unfold Kh at h ⊢
  split at h
  · rename_i o off
    simp only [F3, Pg] at h ⊢
    cases hz : H[o]? with
    | none => rw [hz] at h; simp at h
    | some z =>
      rw [hz] at h
      simp only [Option.map_some] at h ⊢
      cases h0 : ps0.contains o with
      | true => rw [h0] at h; simp at h
      | false =>
        have : ps.contains o = false := by
          cases hb : ps.contains o with
          | false => rfl
          | true =>
            have h1 := hps o (by simpa using hb)
            have h2 : ps0.contains o = true := by simpa using h1
            rw [h0] at h2; cases h2
        rw [h0] at h
        rw [this]
        exact h
  · exact h
  · cases h
theorem C2f {T : TT} {GL : GT} {op : Op} {env : Env} {H : T0} {ps ps0 : List Nat} (hps : ∀ p ∈ ps, p ∈ ps0) {c : Prop} {y : A} (h : opA T GL op env (H4 ps0 H) = some (c, y)) : opA T GL op env (H4 ps H) = some (c, y) := by
  cases op with
  | load t a =>
    simp only [opA] at h ⊢
    cases ht : P2 T t with
    | none => rw [ht] at h; cases h
    | some i =>
      rw [ht] at h
      simp only at h ⊢
      cases hl : Kh i (ev GL env a) (H4 ps0 H) with
      | none => rw [hl] at h; cases h
      | some z =>
        rw [hl] at h
        rw [X28 hps hl]
        exact h
  | makeFunc f first caps => cases f <;> exact h
  | call c =>
    obtain ⟨cl, as, ts⟩ := c
    cases cl <;> exact h
  | _ => exact h
theorem L1u {C : Cx} {L : List Oper} {o : Oper} {env : Env} {H : T0} {ps ps0 : List Nat} (hps : ∀ p ∈ ps, p ∈ ps0) {d : Option Nat} {c : Prop} {y : A} (h : Om C L o env (H4 ps0 H) = some (d, c, y)) : Om C L o env (H4 ps H) = some (d, c, y) := by
  unfold Om at h ⊢
  split at h
  · rename_i hw
    split at h
    · rename_i c' x' ho
      rw [C2f hps ho]
      exact h
    · cases h
  · exact h
  · cases h
theorem L26 {C : Cx} (hC : B2 C) {L : List Oper} {o : Oper} {env : Env} {H : T0} {d : Option Nat} {c : Prop} {x : A} (h : Om C L o env H = some (d, c, x)) (hc : c) : o.dst = d ∧ D1f C L o env H x := by
  have := AQ.q (l := []) (Q := fun _ => True) hC h hc trivial
  unfold Om at h
  split at h
  · rename_i hw
    split at h
    · rename_i c' x' ho
      split at h
      · rename_i y hy
        have hyx := Ut hy
        subst hyx
        have : o.dst = d ∧ c' = c ∧ y = x := by
          split at h
          · rename_i t ht
            simp only [Option.some.injEq, Prod.mk.injEq] at h
            exact ⟨ht.trans h.1, h.2.1, h.2.2⟩
          · rename_i ht
            simp only [Option.some.injEq, Prod.mk.injEq] at h
            exact ⟨ht.trans h.1, h.2.1, h.2.2⟩
        obtain ⟨rfl, rfl, rfl⟩ := this
        exact ⟨rfl, .inl ⟨hw, Bw hC ho hc⟩⟩
      · cases h
    · cases h
  · rename_i hw
    have : o.dst = d ∧ A.tup [] = x := by
      split at h
      · rename_i t ht
        simp only [Option.some.injEq, Prod.mk.injEq] at h
        exact ⟨ht.trans h.1, h.2.2⟩
      · rename_i ht
        simp only [Option.some.injEq, Prod.mk.injEq] at h
        exact ⟨ht.trans h.1, h.2.2⟩
    obtain ⟨rfl, rfl⟩ := this
    exact ⟨rfl, .inr ⟨hw, rfl⟩⟩
  · cases h
def G22 (C : Cx) (L : List Oper) (o : Oper) (env : Env) : Option (Option Nat × TypeId × List A) :=
  match K1 L env o, o.op, H6 o with
  | some true, .alloc t, some d => match P2 C.T t with
    | some i => match Ru (i.zero.map zf) with | some cs => some (d, t, cs) | none => none
    | none => none
  | some true, .box t y, some d => match Vh (ev C.GL env y) with
    | some cs => match Ru cs with | some cs => some (d, t, cs) | none => none
    | none => none
  | _, _, _ => none
theorem H25 {F : Fx} (hC : B2 F.C) {L : List Oper} {o : Oper} {env : Env} {d : Option Nat} {t : TypeId} {cs : List A} (h : G22 F.C L o env = some (d, t, cs)) : K1 L env o = some true ∧ o.dst = d ∧ A22 F L o env t cs := by
  unfold G22 at h
  split at h
  · rename_i t' d' hw ho hd
    split at h
    · rename_i i ht
      split at h
      · rename_i cs' hcs
        simp only [Option.some.injEq, Prod.mk.injEq] at h
        obtain ⟨rfl, rfl, rfl⟩ := h
        have := Kr hcs
        subst this
        refine ⟨hw, (S3 hd), fun env' H M G w a hr hs => ?_⟩
        obtain ⟨z, h1, h2⟩ := L1g (M := M) (G := G) hC.tok ht
        exact ⟨z.cells, h2, by unfold execOp; simp [ho, Instr.alloc, h1, newVar, newRow]⟩
      · cases h
    · cases h
  · rename_i t' y d' hw ho hd
    split at h
    · rename_i cs1 hc1
      split at h
      · rename_i cs' hcs
        simp only [Option.some.injEq, Prod.mk.injEq] at h
        obtain ⟨rfl, rfl, rfl⟩ := h
        have := Kr hcs
        subst this
        refine ⟨hw, (S3 hd), fun env' H M G w a hr hs => ?_⟩
        have hy : ev F.C.GL env' y = ev F.C.GL env y := H16 fun u hu => hr u (by
          subst hu
          simp only [Lc, List.mem_append, List.mem_filterMap]
          exact .inl ⟨.tmp u, by simp [ho, Op.operands], rfl⟩)
        obtain ⟨c1, c2, c3⟩ := P1b (hs.eval y) (by rw [hy]; exact hc1)
        exact ⟨(a.eval y).cells, ⟨c1.symm, c2, c3⟩, by unfold execOp; simp [ho, Instr.box, newVar, newRow]⟩
      · cases h
    · cases h
  · cases h
def D20 (p : Nat) : List T0 → List (Option Ob)
  | [] => []
  | H :: r => nth H p :: D20 p r
def E20 (x : Option Ob) : List T0 → List (Option Ob)
  | [] => []
  | _ :: r => x :: E20 x r
theorem M1y {p : Nat} {x : Option Ob} : ∀ {Hs : List T0}, D20 p Hs = E20 x Hs → ∀ H ∈ Hs, nth H p = x
  | [], _, H, h => by cases h
  | K :: r, h, H, hm => by
    simp only [D20, E20, List.cons.injEq] at h
    cases hm with
    | head => exact h.1
    | tail _ hm => exact M1y h.2 H hm
section
variable {F : Fx} {L l : List Oper} {o : Oper} {env : Env} {ls : List Nat} {fs : List (Nat × Nat)} {Hs : List T0} {j s : Nat} {Q : Env → Prop}
theorem AS.nil (h : Q env) : AS F L ls fs Hs j s [] env Q := h
theorem AS.y {d : Option Nat} {x : A} (hd : o.dst = d) (hn : ls.contains j = false) (hf : Bp fs j = none) (h : ∀ H, D1f F.C L o env H x) (k : AS F L ls fs Hs (j + 1) s l (put env d x) Q) : AS F L ls fs Hs j s (o :: l) env Q :=
  .inl ⟨d, x, hd, hn, hf, fun _ _ _ _ => h _, k⟩
theorem AS.q (hC : B2 F.C) {d : Option Nat} {x : A} (h : E1i F.C L o env (unw L fs j) (Hs.drop (loN L ls j)) = S1p (some (d, True, x)) (Hs.drop (loN L ls j))) (hd : o.dst = d) (hn : ls.contains j = false) (hf : Bp fs j = none) (k : AS F L ls fs Hs (j + 1) s l (put env d x) Q) : AS F L ls fs Hs j s (o :: l) env Q :=
  .inl ⟨d, x, hd, hn, hf, fun H hm _ hps => (L26 hC (L1u hps (Y1j h H hm)) trivial).2, k⟩
theorem AS.qc (hC : B2 F.C) {d : Option Nat} {c : Prop} {x : A} (h : E1i F.C L o env (unw L fs j) (Hs.drop (loN L ls j)) = S1p (some (d, c, x)) (Hs.drop (loN L ls j))) (hc : c) (hd : o.dst = d) (hn : ls.contains j = false) (hf : Bp fs j = none) (k : AS F L ls fs Hs (j + 1) s l (put env d x) Q) : AS F L ls fs Hs j s (o :: l) env Q :=
  .inl ⟨d, x, hd, hn, hf, fun H hm _ hps => (L26 hC (L1u hps (Y1j h H hm)) hc).2, k⟩
theorem AS.qe (hC : B2 F.C) {d : Option Nat} {c : Prop} {x y : A} (h : E1i F.C L o env (unw L fs j) (Hs.drop (loN L ls j)) = S1p (some (d, c, x)) (Hs.drop (loN L ls j))) (hc : c) (e : x = y) (hd : o.dst = d) (hn : ls.contains j = false) (hf : Bp fs j = none) (k : AS F L ls fs Hs (j + 1) s l (put env d y) Q) : AS F L ls fs Hs j s (o :: l) env Q := by
  subst e; exact .qc hC h hc hd hn hf k
theorem AS.c {d : Option Nat} {f : FuncId} {xs : List A} {x : A} (hc : S0 F.C f xs [] (Ret [] x)) (h : Dk F.C L o env = some (d, f, xs)) (hx : B3 0 xs = true) (hn : ls.contains j = false) (hf : Bp fs j = none) (k : AS F L ls fs Hs (j + 1) s l (put env d x) Q) : AS F L ls fs Hs j s (o :: l) env Q := by
  obtain ⟨h1, h2, h3⟩ := Ek h
  exact .y h3 hn hf (fun H => .inl ⟨h1, I17 h2 hx hc⟩) k
theorem AS.ix (hC : B2 F.C) {d : Option Nat} {rows : List (List D)} {n : Int} {sz : Nat} (h : R1b F.C L o env = some (d, rows, n, sz)) {m : Nat} {r : List D} (hm : n = m) (hk : rows[m]? = some r) (hsz : Nat.beq r.length sz = true) (hn : ls.contains j = false) (hf : Bp fs j = none)
    (k : AS F L ls fs Hs (j + 1) s l (put env d (.ptr r)) Q) : AS F L ls fs Hs j s (o :: l) env Q := by
  obtain ⟨h1, h2⟩ := S1b h
  exact .y h2 hn hf (fun H => .inl ⟨h1, O11 hC h hm hk hsz⟩) k
theorem AS.a {t : Nat} {x : A} (hd : o.dst = some t) (h : ∀ H, AQ F.C L [o] env H (fun e => e = put env (some t) x)) (hn : ls.contains j = false) (hf : Bp fs j = none) (k : AS F L ls fs Hs (j + 1) s l (put env (some t) x) Q) : AS F L ls fs Hs j s (o :: l) env Q := by
  refine .y hd hn hf (fun H => ?_) k
  obtain ⟨d', x', h1, h2, h3⟩ := h H
  rw [hd] at h1
  subst h1
  have : x' = x := by
    have := congrFun h3 t
    simpa [put, upd] using this
  rwa [this] at h2
theorem AS.g {d : Option Nat} {g : FuncId} {xs : List A} {x y : A} {H H' : T0} (idx : List Nat) {cargs : List A} {cH cH' : T0} (hc : S0 F.C g cargs cH (Ret cH' x)) (h1 : nth ls s = some j) (hf : Bp fs j = none) (h2 : nth Hs s = some H) (h3 : nth Hs (s + 1) = some H')
    (h : Dk F.C L o env = some (d, g, xs)) (hx : Mr (Se idx H.length) cargs = xs) (hi : E1f idx H.length = true) (hm : R1c H idx = Z1m (Se idx H.length) cH)
    (ht : Ka idx cH = []) (hr : frc (ren (Se idx H.length) x) = some y) (hH : Qm (Fm H idx (Se idx H.length) (Ka idx cH) cH') = some H')
    (hun : (idx.all (fun p => !(unw L fs j).contains p) && (unw L fs j).all (fun p => Nat.blt p H.length) && Nat.ble idx.length cH'.length) = true) (k : AS F L ls fs Hs (j + 1) (s + 1) l (put env d y) Q) : AS F L ls fs Hs j s (o :: l) env Q := by
  obtain ⟨q1, _, q3⟩ := Ek h
  exact .inr (.inl ⟨y, H, H', h1, hf, q1, h2, h3, fun ps hps => A18.g idx hc h hx hi hm ht hr hH hun ps hps, by rw [q3]; exact k⟩)
theorem AS.n (hC : B2 F.C) {d : Option Nat} {t : TypeId} {cs : List A} {p : Nat} (h : G22 F.C L o env = some (d, t, cs)) (hf : Bp fs j = some p) (hn : ls.contains j = false) (hr : D20 p (Hs.take (hiN L ls j + 1)) = E20 (some (.row cs t)) (Hs.take (hiN L ls j + 1)))
    (k : AS F L ls fs Hs (j + 1) s l (put env d (.ref p 0)) Q) : AS F L ls fs Hs j s (o :: l) env Q := by
  obtain ⟨q1, q2, q3⟩ := H25 hC h
  exact .inr (.inr ⟨t, cs, p, hf, hn, q1, q3, M1y hr, by rw [q2]; exact k⟩)
end
end Go.Am

namespace Go.Am
def S1c (C : Cx) (L : List Oper) (o : Oper) (env : Env) : Option (Option Nat × D) :=
  match K1 L env o, o.op, H6 o with
  | some true, .nilCheck x, some d => match ev C.GL env x with
    | .d xd => some (d, xd)
    | _ => none
  | _, _, _ => none
theorem Y28 {C : Cx} {L : List Oper} {o : Oper} {env : Env} {d : Option Nat} {x : D} (h : S1c C L o env = some (d, x)) : H6 o = some d := by
  unfold S1c at h
  split at h
  · rename_i x' d' hw ho hd
    split at h
    · simp only [Option.some.injEq, Prod.mk.injEq] at h
      obtain ⟨rfl, rfl⟩ := h
      exact hd
    · cases h
  · cases h
theorem F1n {C : Cx} {L : List Oper} {o : Oper} {env : Env} {H : T0} {d : Option Nat} {x : D} {cs : List D} (h : S1c C L o env = some (d, x)) (hx : x = .bxo (some cs)) :
    K1 L env o = some true ∧ H6 o = some d ∧ N7 C o env H (.ptr cs) := by
  unfold S1c at h
  split at h
  · rename_i x' d' hw ho hd
    split at h
    · rename_i xd hex
      simp only [Option.some.injEq, Prod.mk.injEq] at h
      obtain ⟨rfl, rfl⟩ := h
      subst hx
      refine ⟨hw, hd, ?_⟩
      intro M G w a next Qw hρ hG _ hH hk
      have h1 := hρ x' (by rw [ho]; simp [Op.operands])
      rw [hex] at h1
      generalize hv : a.eval x' = v at h1
      cases h1; rename_i h1; cases h1
      rename_i J1 p q r
      have key : ∃ v, (execOp a.eval o).run C.P w = .ok (.value v) w ∧ B1 M G (.ptr cs) v := by
        unfold execOp
        exact ⟨_, by simp only [ho, hv]; rfl, .ptr J1 p q r⟩
      obtain ⟨v, g1, g2⟩ := key
      unfold Oper.wp
      rw [g1]
      exact hk v M w g2 hG (Ext.refl _ _ _)
    · cases h
  · cases h
theorem I0.nk {F : Fx} (_hC : B2 F.C) {L l : List Oper} {o : Oper} {env : Env} {H : T0} {Q : Env → T0 → Prop} {d : Option Nat} {x : D} {cs : List D} (h : S1c F.C L o env = some (d, x)) (hx : x = .bxo (some cs))
    (k : I0 F L l (put env d (.ptr cs)) H Q) : I0 F L (o :: l) env H Q := by
  obtain ⟨h1, h2, h3⟩ := F1n (H := H) h hx
  refine .yields h1 h3 ?_
  rw [S3 h2]
  exact k
theorem AG.nk {C : Cx} (_hC : B2 C) {L l : List Oper} {o : Oper} {env : Env} {cnd : Cnd} {H : T0} {Q : Env → Cnd → Prop} {W : Option Bool} {d : Option Nat} {x : D} {cs : List D} (hw : Ar L env cnd o = some W)
    (h : S1c C [] (noG o) env = some (d, x)) (hs : holds W → Ol cnd (U11 o)) (hx : holds W → x = .bxo (some cs)) (kk : AG C L l (put env d (.ptr cs)) (Sj cnd d W) H Q) : AG C L (o :: l) env cnd H Q :=
  .lift (show H6 (noG o) = some d from Y28 h) hw hs (fun hh => (F1n h (hx hh)).2.2) kk
theorem AQ.nk {C : Cx} (_hC : B2 C) {L l : List Oper} {o : Oper} {env : Env} {H : T0} {Q : Env → Prop} {d : Option Nat} {x : D} {cs : List D} (h : S1c C L o env = some (d, x)) (hx : x = .bxo (some cs)) (k : AQ C L l (put env d (.ptr cs)) H Q) : AQ C L (o :: l) env H Q := by
  obtain ⟨h1, h2, h3⟩ := F1n (H := H) h hx
  exact ⟨d, _, S3 h2, .inl ⟨h1, h3⟩, k⟩
theorem AQ.nq {C : Cx} (hC : B2 C) {L l : List Oper} {o : Oper} {env : Env} {H : T0} {Q : Env → Prop} {d : Option Nat} {x : D} {neg b : Bool} (h : J1u C L o env = some (d, x, neg)) (hx : X1j x = some b)
    (k : AQ C L l (put env d (.d (.bool (bif neg then !b else b)))) H Q) : AQ C L (o :: l) env H Q := by
  obtain ⟨h1, h2, h3⟩ := G1y (H := H) hC h hx
  exact ⟨d, _, S3 h2, .inl ⟨h1, h3⟩, k⟩
theorem AQ.fl {C : Cx} (hC : B2 C) {L l : List Oper} {o : Oper} {env : Env} {H : T0} {Q : Env → Prop} {d : Option Nat} {xd : D} {k : List UInt8} {ok : Bool} {z y : A} {es : List (List UInt8 × Row)} (h : R1p C L o env = some (d, xd, k, ok, z))
    (he : B1n xd = some es) (e : lkA (O3 k es) z ok = y) (kk : AQ C L l (put env d y) H Q) : AQ C L (o :: l) env H Q := by
  subst e
  obtain ⟨h1, h2, h3⟩ := C1n (H := H) hC h he
  exact ⟨d, _, S3 h2, .inl ⟨h1, h3⟩, kk⟩
end Go.Am

namespace Go.Am
def Fv (k : Int) : List (Int × Row) → Option Row
  | [] => none
  | (k', cs) :: r => bif k == k' then some cs else Fv k r
def mputI (k : Int) (cs : Row) : List (Int × Row) → List (Int × Row)
  | [] => [(k, cs)]
  | (k', cs') :: r => bif k == k' then (k, cs) :: r else (k', cs') :: mputI k cs r
structure LkI where
  d : Option Nat
  es : List (Int × Row)
  k : Int
  ok : Bool
  z : A
theorem G1n {kd : IntKind} (es : List (Int × Row)) : (Wv.i kd es).list.length = es.length := by simp [Wv.list]
theorem N1y {kd : IntKind} {M : Mem} {G : Nat → Value} {es : List (Int × Row)} {ms : Array MapEntry} (h : ∀ (i : Nat) k cs e, (Wv.i kd es).list[i]? = some (k, cs) → ms[i]? = some e → O2 M k e.key ∧ B1 M G (Th cs) e.val) :
    ∀ (i : Nat) k cs e, es[i]? = some (k, cs) → ms[i]? = some e → O2 M (.int kd k) e.key ∧ B1 M G (Th cs) e.val := fun i k cs e a b => h i (.int kd k) cs e (by simp [Wv.list, a]) b
theorem Z28 {kd : IntKind} {M : Mem} {G : Nat → Value} {es : List (Int × Row)} {ms : Array MapEntry} (h : ∀ (i : Nat) k cs e, es[i]? = some (k, cs) → ms[i]? = some e → O2 M (.int kd k) e.key ∧ B1 M G (Th cs) e.val) :
    ∀ (i : Nat) k cs e, (Wv.i kd es).list[i]? = some (k, cs) → ms[i]? = some e → O2 M k e.key ∧ B1 M G (Th cs) e.val := fun i k cs e a b => by
  simp only [Wv.list, List.getElem?_map] at a
  cases hp : es[i]? with
  | none => rw [hp] at a; cases a
  | some p =>
    rw [hp] at a
    simp only [Option.map_some, Option.some.injEq, Prod.mk.injEq] at a
    obtain ⟨rfl, rfl⟩ := a
    exact h i p.1 p.2 e hp b
theorem M1g {kd : IntKind} {k : Int} : ∀ {es : List (Int × Row)} {ms : List MapEntry} {i : Nat}, ms.length = es.length → (∀ (n : Nat) k' cs e, es[n]? = some (k', cs) → ms[n]? = some e → e.key = .int kd k') →
    (Fv k es = none ∧ Instr.findNow (.int kd) (.int kd k) ms i = some none ∧ ∀ cs, mputI k cs es = es ++ [(k, cs)]) ∨
    ∃ n cs e, es[n]? = some (k, cs) ∧ Fv k es = some cs ∧ ms[n]? = some e ∧ Instr.findNow (.int kd) (.int kd k) ms i = some (some (i + n, e.val)) ∧ ∀ cs', mputI k cs' es = es.set n (k, cs')
  | [], [], i, _, _ => .inl ⟨rfl, rfl, fun _ => rfl⟩
  | (k', cs) :: es, m :: ms, i, hl, hk => by
    have hm := hk 0 k' cs m rfl rfl
    simp only [Instr.findNow, hm, Instr.sameNow, Fv, mputI, if_true]
    cases hb : k == k' with
    | true =>
      obtain rfl := beq_iff_eq.1 hb
      exact .inr ⟨0, cs, m, rfl, rfl, rfl, rfl, fun _ => rfl⟩
    | false =>
      simp only [cond_false]
      rcases M1g (k := k) (es := es) (ms := ms) (i := i + 1) (by simpa using hl) (fun n k' cs e a b => hk (n + 1) k' cs e (by simpa using a) (by simpa using b)) with ⟨h1, h2, h3⟩ | ⟨n, cs', e, h1, h2, h3, h4, h5⟩
      · exact .inl ⟨h1, h2, fun cs' => by rw [h3]; rfl⟩
      · exact .inr ⟨n + 1, cs', e, by simpa using h1, h2, by simpa using h3, by rw [h4]; congr 3; omega, fun c => by rw [h5]; rfl⟩
  | [], _ :: _, _, hl, _ => by simp at hl
  | _ :: _, [], _, hl, _ => by simp at hl
theorem A10 {P : Program} {w : World} {kt : Nat} {kd : IntKind} (h : P.underlying kt = some (.int kd)) (b : Bool) (n : Int) : (Instr.checkKey b 10000 kt (.int kd n)).run P w = .ok () w := by
  have key : ∀ m, (Instr.checkKey b (m + 1) kt (.int kd n)).run P w = .ok () w := fun m => by simp [Instr.checkKey, run_underlying h]
  exact key 9999
theorem L16 {α : Type} {b : Bool} {x : α} {y : Option α} (h : (bif b then y else none) = some x) : b = true ∧ y = some x := by cases b <;> simp_all
def F1i (C : Cx) (L : List Oper) (o : Oper) (env : Env) (H : T0) : Option LkI :=
  match K1 L env o, o.op, H6 o with
  | some true, .lookup t x y ok, some d => match P2 C.T t, ev C.GL env x, ev C.GL env y with
    | some i, .mp p, .d (.int kd k) => match i.u, nth H p with
      | .map kt et, some (.map (.i kd' es)) => match P2 C.T kt, P2 C.T et with
        | some ki, some ei => match ki.u, frc (J1f ei) with
          | .int k3, some z => bif decide (k3 = kd ∧ kd' = kd) then some ⟨d, es, k, ok, z⟩ else none
          | _, _ => none
        | _, _ => none
      | _, _ => none
    | _, _, _ => none
  | _, _, _ => none
theorem B1r {C : Cx} {L : List Oper} {o : Oper} {env : Env} {H : T0} {r : LkI} (h : F1i C L o env H = some r) : K1 L env o = some true ∧ H6 o = some r.d := by
  unfold F1i at h
  split at h
  · rename_i t x y ok d hw ho hd
    split at h
    · split at h
      · split at h
        · split at h
          · obtain ⟨_, h⟩ := L16 h
            simp only [Option.some.injEq] at h
            subst h
            exact ⟨hw, hd⟩
          · cases h
        · cases h
      · cases h
    · cases h
  · cases h
theorem G1i {C : Cx} (hC : B2 C) {L : List Oper} {o : Oper} {env : Env} {H : T0} {d : Option Nat} {es : List (Int × Row)} {k : Int} {ok : Bool} {z : A} (h : F1i C L o env H = some ⟨d, es, k, ok, z⟩) {r : Option Row} (hr : Fv k es = r) : N7 C o env H (lkA r z ok) := by
  intro M G w a next Qw hρ hG hgl hH hkk
  subst hr
  unfold F1i at h
  split at h
  · rename_i t x y ok' d' hw ho hd
    rw [ho] at hρ
    split at h
    · rename_i i p kd k' ht hx hy
      split at h
      · rename_i kt et kd' es' hu hp
        split at h
        · rename_i ki ei hki hei
          split at h
          · rename_i k3 z' hku hz
            obtain ⟨hkk', h5⟩ := L16 h
            clear h
            obtain ⟨rfl, rfl⟩ := of_decide_eq_true hkk'
            simp only [Option.some.injEq, LkI.mk.injEq] at h5
            obtain ⟨rfl, rfl, rfl, rfl, rfl⟩ := h5
            have hz' := Ut hz
            subst hz'
            have hxr := hρ x (by simp [Op.operands])
            have hyr := hρ y (by simp [Op.operands])
            rw [hx] at hxr
            rw [hy] at hyr
            generalize hxv : a.eval x = xv at hxr
            generalize hyv : a.eval y = yv at hyr
            cases hxr; rename_i b hgb
            cases hyr; rename_i hyr; cases hyr
            rename_i hkl
            rw [F3] at hp
            obtain ⟨b', ms, cl, g1, g2, g3, g4, g5, g6⟩ := hH.obj p _ hp
            have g3 := g3.trans (G1n _)
            have g4 := N1y g4
            rw [hgb] at g1
            simp at g1
            subst g1
            have hd := Ss (hC.tok.facts ht) hu
            have hkd := A1f (hC.tok.facts hki) hku
            obtain ⟨zv, hzr, hzrel⟩ := V1m hC.tok hei M G
            have hkeys : ∀ (n : Nat) k' cs e, es'[n]? = some (k', cs) → ms.toList[n]? = some e → e.key = .int kd' k' := fun n k' cs e a b => by
              have := (g4 n k' cs e a (by simpa using b)).1
              generalize e.key = ek at this
              cases this; rfl
            have key : ∃ v, (Instr.lookup t (.map (some b)) (.int kd' k') ok').run C.P w = .ok v w ∧ B1 M G (lkA (Fv k' es') (J1f ei) ok') v := by
              rcases M1g (k := k') (i := 0) (by simpa using g3) hkeys with ⟨h1, h2, _⟩ | ⟨n, cs, e, h1, h2, h3, h4, _⟩
              · refine ⟨if ok' then .tuple #[zv, .bool false] else zv, ?_, ?_⟩
                · simp [Instr.lookup, run_underlying hd, Hk g2, A10 hkd, Instr.findKey, run_underlying hkd, h2, hzr w]
                · rw [h1]
                  cases ok' with
                  | false => simpa [lkA] using hzrel
                  | true =>
                    refine .tup rfl fun i x v hx hv => ?_
                    match i with
                    | 0 => simp at hx hv; subst hx; subst hv; exact hzrel
                    | 1 => simp at hx hv; subst hx; subst hv; exact .d .bool
                    | _ + 2 => simp at hx
              · have hev := (g4 n k' cs e h1 (by simpa using h3)).2
                refine ⟨if ok' then .tuple #[e.val, .bool true] else e.val, ?_, ?_⟩
                · simp [Instr.lookup, run_underlying hd, Hk g2, A10 hkd, Instr.findKey, run_underlying hkd, h4]
                · rw [h2]
                  cases ok' with
                  | false => simpa [lkA] using hev
                  | true =>
                    refine .tup rfl fun i x v hx hv => ?_
                    match i with
                    | 0 => simp at hx hv; subst hx; subst hv; exact hev
                    | 1 => simp at hx hv; subst hx; subst hv; exact .d .bool
                    | _ + 2 => simp at hx
            obtain ⟨v, hv, hrel⟩ := key
            unfold Oper.wp execOp
            simp only [ho, hxv, hyv, Sem.run_bind, hv, Result.andThen_ok, Sem.run_pure, Oper.upon_value]
            exact hkk _ M w hrel hG (Ext.refl _ _ _)
          · cases h
        · cases h
      · cases h
    · cases h
  · cases h
def D2f : Op → Option (TypeId × Operand × Operand × Operand)
  | .mapUpdate t x y z => some (t, x, y, z)
  | .insert t x y z => some (t, x, y, z)
  | _ => none
def M1u (C : Cx) (L : List Oper) (o : Oper) (env : Env) (H : T0) : Option T0 :=
  match K1 L env o, D2f o.op, o.dst with
  | some true, some (t, x, y, z), none => match P2 C.T t, ev C.GL env x, ev C.GL env y, X1h (ev C.GL env z) with
    | some i, .mp p, .d (.int kd k), some cs => match i.u, nth H p with
      | .map kt _, some (.map (.i kd' es)) => match P2 C.T kt with
        | some ki => match ki.u with
          | .int k3 => bif decide (k3 = kd ∧ kd' = kd) then Pm H p (.map (.i kd (mputI k cs es))) else none
          | _ => none
        | none => none
      | _, _ => none
    | _, _, _, _ => none
  | _, _, _ => none
theorem I0.u_i {F : Fx} (hC : B2 F.C) {L l : List Oper} {o : Oper} {env : Env} {H H' : T0} {Q : Env → T0 → Prop} (h : M1u F.C L o env H = some H') (k : I0 F L l env H' Q) : I0 F L (o :: l) env H Q := by
  unfold M1u at h
  split at h
  · rename_i t x y z hw ho hdst
    split at h
    · rename_i i p kd kk cs ht hx hy hz
      split at h
      · rename_i kt et kd' es hu hp
        split at h
        · rename_i ki hki
          split at h
          · rename_i k3 hku
            obtain ⟨hkk', h5⟩ := L16 h
            clear h
            obtain ⟨rfl, rfl⟩ := of_decide_eq_true hkk'
            have e1 := Cw h5
            subst e1
            refine Ja hw fun fr M G w a K Qw hK hdok hs hsi hk => ?_
            have hxr := hs.eval x
            have hyr := hs.eval y
            have hzr := E1u hz (hs.eval z)
            rw [hx] at hxr
            rw [hy] at hyr
            generalize hxv : a.eval x = xv at hxr
            generalize hyv : a.eval y = yv at hyr
            generalize hzv : a.eval z = zv at hzr
            cases hxr; rename_i b hgb
            cases hyr; rename_i hyr; cases hyr
            rename_i hkl
            rw [F3] at hp
            obtain ⟨b', ms, cl, g1, g2, g3, g4, g5, g6⟩ := hs.hrel.obj p _ hp
            have g3 := g3.trans (G1n es)
            have g4 := N1y g4
            rw [hgb] at g1
            simp at g1
            subst g1
            have hd := Ss (hC.tok.facts ht) hu
            have hkd := A1f (hC.tok.facts hki) hku
            have hblt : b < w.heap.size := (Array.getElem?_eq_some_iff.1 g2).1
            have hkeys : ∀ (n : Nat) k' cs e, es[n]? = some (k', cs) → ms.toList[n]? = some e → e.key = .int kd' k' := fun n k' cs e a b => by
              have := (g4 n k' cs e a (by simpa using b)).1
              generalize e.key = ek at this
              cases this; rfl
            have hMb : ∀ off sp, M ⟨b, off, sp⟩ = none := g6
            have key : ∃ ms' cl', (Instr.mapUpdate t (.map (some b)) (.int kd' kk) zv).run F.C.P w = .ok () { w with heap := w.heap.setIfInBounds b (.map ms' cl') } ∧ ms'.size = (mputI kk cs es).length ∧
                (∀ (i : Nat) k' cs' e, (mputI kk cs es)[i]? = some (k', cs') → ms'[i]? = some e → O2 M (.int kd' k') e.key ∧ B1 M G (Th cs') e.val) ∧ ∀ (i : Nat) e, ms'[i]? = some e → e.born < cl' := by
              have Ha : ∀ o', (setObj b o').run F.C.P w = .ok () { w with heap := w.heap.setIfInBounds b o' } := fun o' => by simp [setObj, Sem.run, g2]
              rcases M1g (k := kk) (i := 0) (by simpa using g3) hkeys with ⟨h1, h2, h3⟩ | ⟨n, cs0, e, h1, h2, h3, h4, h5⟩
              · refine ⟨ms.push ⟨.int kd' kk, zv, cl⟩, cl + 1, ?_, by rw [h3]; simp [g3], fun i k' cs' e hi he => ?_, fun i e he => ?_⟩
                · simp [Instr.mapUpdate, run_underlying hd, Hk g2, A10 hkd, Instr.findKey, run_underlying hkd, h2, Ha]
                · rw [h3] at hi
                  rw [Array.getElem?_push] at he
                  split at he
                  · rename_i hie
                    simp only [Option.some.injEq] at he
                    subst he
                    rw [List.getElem?_append_right (by omega)] at hi
                    have : i - es.length = 0 := by omega
                    rw [this] at hi
                    simp at hi
                    obtain ⟨rfl, rfl⟩ := hi
                    exact ⟨.int hkl, hzr⟩
                  · rename_i hie
                    have hlt : i < ms.size := by have := (Array.getElem?_eq_some_iff.1 he).1; omega
                    rw [List.getElem?_append_left (by omega)] at hi
                    exact g4 i k' cs' e hi he
                · rw [Array.getElem?_push] at he
                  split at he
                  · simp only [Option.some.injEq] at he; subst he; simp
                  · have := g5 i e he; omega
              · have hn : n < ms.size := by simpa using (List.getElem?_eq_some_iff.1 h3).1
                have hmn : ms[n]? = some e := by simpa using h3
                have hke : e.key = .int kd' kk := hkeys n kk cs0 e h1 h3
                have hst : ∀ w, (Instr.keyThatStays (.int kd' kk) (.int kd' kk)).run F.C.P w = .ok (.int kd' kk) w := fun w => by
                  have : Instr.sameBits 10000 (.int kd' kk) (.int kd' kk) = true := by simp [Instr.sameBits]
                  simp [Instr.keyThatStays, this]
                refine ⟨ms.modify n fun e => { e with key := .int kd' kk, val := zv }, cl, ?_, by rw [h5]; simp [g3], fun i k' cs' e' hi he => ?_, fun i e' he => ?_⟩
                · simp [Instr.mapUpdate, run_underlying hd, Hk g2, A10 hkd, Instr.findKey, run_underlying hkd, h4, hmn, hke, hst, Ha]
                · rw [h5, List.getElem?_set] at hi
                  rw [Array.getElem?_modify] at he
                  by_cases hin : n = i
                  · rw [if_pos hin] at he hi
                    subst hin
                    rw [hmn] at he
                    simp only [Option.map_some, Option.some.injEq] at he
                    subst he
                    rw [if_pos (by omega)] at hi
                    simp only [Option.some.injEq, Prod.mk.injEq] at hi
                    obtain ⟨rfl, rfl⟩ := hi
                    exact ⟨.int hkl, hzr⟩
                  · rw [if_neg hin] at he hi
                    exact g4 i k' cs' e' hi he
                · rw [Array.getElem?_modify] at he
                  by_cases hin : n = i
                  · rw [if_pos hin] at he
                    subst hin
                    rw [hmn] at he
                    simp only [Option.map_some, Option.some.injEq] at he
                    subst he
                    exact g5 n e hmn
                  · rw [if_neg hin] at he
                    exact g5 i e' he
            obtain ⟨ms', cl', k1, k2, k3, k4⟩ := key
            have hbk : blk (.map (.i kd' es)) (G p) = some b := by rw [hgb]; rfl
            have hbk' : blk (.map (.i kd' (mputI kk cs es))) (G p) = some b := by rw [hgb]; rfl
            have hext : Ext (fun c => c = b) M w M { w with heap := w.heap.setIfInBounds b (.map ms' cl') } :=
              ⟨fun _ _ e => e, by simp, rfl, rfl, rfl, fun c _ hc => by simp [Array.getElem?_setIfInBounds_ne (Ne.symm hc)], fun _ _ e => .inl e⟩
            have hob : Uh M G { w with heap := w.heap.setIfInBounds b (.map ms' cl') } (.map (.i kd' (mputI kk cs es))) (G p) :=
              ⟨b, ms', cl', hgb, by simp [hblt], k2.trans (G1n _).symm, Z28 k3, k4, g6⟩
            have ho' : o.op = .mapUpdate t x y z ∨ o.op = .insert t x y z := by
              unfold D2f at ho
              split at ho
              · rename_i h8; cases ho; exact .inl h8
              · rename_i h8; cases ho; exact .inr h8
              · cases ho
            have hr : (execOp a.eval o).run F.C.P w = .ok .skip { w with heap := w.heap.setIfInBounds b (.map ms' cl') } := by
              unfold execOp
              rcases ho' with ho' | ho' <;> simp only [ho', hxv, hyv, hzv, Sem.run_bind, k1, Result.andThen_ok, Sem.run_pure]
            unfold Oper.wp
            rw [hr]
            refine hk .junk env _ M G _ undef ?_ (hs.setOb (Q4 hdok) hp hbk hbk' hext hMb hob .junk) (hsi.setOb hp hbk hbk' rfl hext)
            rw [hdst]
            exact k
          · cases h
        · cases h
      · cases h
    · cases h
  · cases h
def Z2b (kd : IntKind) (L : List Oper) (o : Oper) (env : Env) (H : T0) : Option (Option Nat × Nat × T0) :=
  match K1 L env o, o.op, H6 o with
  | some true, .makeMap _ none, some d => match At H (.map (.i kd [])) with | some (n, H') => some (d, n, H') | none => none
  | _, _, _ => none
theorem I0.wi (kd : IntKind) {F : Fx} {L l : List Oper} {o : Oper} {env : Env} {H H' : T0} {Q : Env → T0 → Prop} {d : Option Nat} {n : Nat} (h : Z2b kd L o env H = some (d, n, H')) (k : I0 F L l (put env d (.mp n)) H' Q) : I0 F L (o :: l) env H Q := by
  unfold Z2b at h
  split at h
  · rename_i t d' hw ho hd
    split at h
    · rename_i n' H2 hp
      simp only [Option.some.injEq, Prod.mk.injEq] at h
      obtain ⟨rfl, rfl, rfl⟩ := h
      obtain ⟨rfl, rfl⟩ := Zl hp
      refine Ja hw fun fr M G w a K Qw hK hdok hs hsi hk => ?_
      have hr : (execOp a.eval o).run F.C.P w = .ok (.value (.map (some w.heap.size))) (w.alloc (.map #[] 0)) := by
        unfold execOp
        simp only [ho, Instr.makeMap]
        rfl
      have hg : H8 M (w.alloc (.map #[] 0)) := hs.good.alloc _
      unfold Oper.wp
      rw [hr]
      have hob : ∀ G, Uh M G (w.alloc (.map #[] 0)) (.map (.i kd [])) (.map (some w.heap.size)) := fun G => ⟨w.heap.size, #[], 0, rfl, heap_alloc_new w _, rfl, fun i k cs e h => by simp [Wv.list] at h, fun i e h => by simp at h, fun off sp => by
        cases hM : M ⟨w.heap.size, off, sp⟩ with
        | none => rfl
        | some v => have := hs.good.lt hM; simp at this⟩
      have hb : ∀ b, blk (.map (.i kd [])) (.map (some w.heap.size)) = some b → w.heap.size ≤ b := fun b hb => by simp [blk] at hb; omega
      refine hk (.mp H.length) env _ M (A7 G H.length (.map (some w.heap.size))) _ _ ?_ (hs.newOb (Q4 hdok) (Zm J6 M w _) hg hob hb (.mp X2)) (hsi.newOb (Zm J6 M w _) hb)
      rw [S3 hd]
      exact k
    · cases h
  · cases h
theorem I0.mi {F : Fx} (hC : B2 F.C) {L l : List Oper} {o : Oper} {env : Env} {H : T0} {Q : Env → T0 → Prop} {d : Option Nat} {es : List (Int × Row)} {k : Int} {ok : Bool} {z y : A} (h : F1i F.C L o env H = some ⟨d, es, k, ok, z⟩) (e : lkA (Fv k es) z ok = y)
    (kk : I0 F L l (put env d y) H Q) : I0 F L (o :: l) env H Q := by
  subst e
  obtain ⟨h1, h2⟩ := B1r h
  refine .yields h1 (G1i hC h rfl) ?_
  rw [S3 h2]
  exact kk
theorem AG.mi {C : Cx} (hC : B2 C) {L l : List Oper} {o : Oper} {env : Env} {cnd : Cnd} {H : T0} {Q : Env → Cnd → Prop} {W : Option Bool} {d : Option Nat} {es : List (Int × Row)} {k : Int} {ok : Bool} {z y : A} (hw : Ar L env cnd o = some W)
    (h : F1i C [] (noG o) env H = some ⟨d, es, k, ok, z⟩) (hs : holds W → Ol cnd (U11 o)) (e : lkA (Fv k es) z ok = y) (kk : AG C L l (put env d y) (Sj cnd d W) H Q) : AG C L (o :: l) env cnd H Q := by
  subst e
  exact .lift (B1r h).2 hw hs (fun _ => G1i hC h rfl) kk
def P1w (C : Cx) (L : List Oper) (o : Oper) (env : Env) (H : T0) : Option (Nat × IntKind × Int × Row × List (Int × Row)) :=
  match K1 L env o, D2f o.op, o.dst with
  | some true, some (t, x, y, z), none => match P2 C.T t, ev C.GL env x, ev C.GL env y, X1h (ev C.GL env z) with
    | some i, .mp p, .d (.int kd k), some cs => match i.u, nth H p with
      | .map kt _, some (.map (.i kd' es)) => match P2 C.T kt with
        | some ki => match ki.u with
          | .int k3 => bif decide (k3 = kd ∧ kd' = kd) then some (p, kd, k, cs, es) else none
          | _ => none
        | none => none
      | _, _ => none
    | _, _, _, _ => none
  | _, _, _ => none
theorem A29 {C : Cx} {L : List Oper} {o : Oper} {env : Env} {H : T0} {p : Nat} {kd : IntKind} {k : Int} {cs : Row} {es : List (Int × Row)} (h : P1w C L o env H = some (p, kd, k, cs, es)) {H' : T0} (h' : Pm H p (.map (.i kd (mputI k cs es))) = some H') : M1u C L o env H = some H' := by
  unfold P1w at h
  unfold M1u
  split at h
  · split at h
    · split at h
      · split at h
        · split at h
          · obtain ⟨hb, h⟩ := L16 h
            simp only [Option.some.injEq, Prod.mk.injEq] at h
            obtain ⟨rfl, rfl, rfl, rfl, rfl⟩ := h
            simp_all only [cond_true]
          · cases h
        · cases h
      · cases h
    · cases h
  · cases h
theorem I0.ui {F : Fx} (hC : B2 F.C) {L l : List Oper} {o : Oper} {env : Env} {H H' : T0} {Q : Env → T0 → Prop} {p : Nat} {kd : IntKind} {k : Int} {cs : Row} {es es2 : List (Int × Row)} (h : P1w F.C L o env H = some (p, kd, k, cs, es)) (e : mputI k cs es = es2) (h' : Pm H p (.map (.i kd es2)) = some H')
    (kk : I0 F L l env H' Q) : I0 F L (o :: l) env H Q := by subst e; exact .u_i hC (A29 h h') kk
def Dt {α : Type} (k : Int) : List (Int × α) → Option α
  | [] => none
  | (k', x) :: r => bif k == k' then some x else Dt k r
def W19 {α : Type} (k : Int) (x : α) : List (Int × α) → List (Int × α)
  | [] => [(k, x)]
  | (k', y) :: r => bif k == k' then (k, x) :: r else (k', y) :: W19 k x r
section
variable {α : Type} {f : α → Row} {h : α → A}
def entsI (f : α → Row) (m : List (Int × α)) : List (Int × Row) := m.map fun p => (p.1, f p.2)
theorem H1n (f : α → Row) (k : Int) : ∀ m : List (Int × α), Fv k (entsI f m) = (Dt k m).map f
  | [] => rfl
  | (k', x) :: r => by
    show (bif k == k' then some (f x) else Fv k (entsI f r)) = (bif k == k' then some x else Dt k r).map f
    rw [H1n f k r]
    cases k == k' <;> rfl
theorem O1y (f : α → Row) (k : Int) (x : α) : ∀ m : List (Int × α), entsI f (W19 k x m) = mputI k (f x) (entsI f m)
  | [] => rfl
  | (k', y) :: r => by
    show entsI f (bif k == k' then (k, x) :: r else (k', y) :: W19 k x r) = (bif k == k' then (k, f x) :: entsI f r else (k', f y) :: mputI k (f x) (entsI f r))
    rw [← O1y f k x r]
    cases k == k' <;> rfl
theorem X2i (hf : ∀ x, Th (f x) = h x) {z : α} {za : A} (hz : za = h z) {k : Int} {m : List (Int × α)} {x : Option α} (hx : some (Dt k m) = some x) : lkA (Fv k (entsI f m)) za true = .tup [h (x.getD z), .d (.bool x.isSome)] := by
  cases hx
  rw [H1n]
  cases Dt k m with
  | none => simp [lkA, hz]
  | some y => simp [lkA, hf]
theorem Y2i (hf : ∀ x, Th (f x) = h x) {z : α} {za : A} (hz : za = h z) {k : Int} {m : List (Int × α)} {x : Option α} (hx : some (Dt k m) = some x) : lkA (Fv k (entsI f m)) za false = h (x.getD z) := by
  cases hx
  rw [H1n]
  cases Dt k m with
  | none => simp [lkA, hz]
  | some y => simp [lkA, hf]
end
end Go.Am

namespace Go.Am
def A2c (C : Cx) (L : List Oper) (o : Oper) (env : Env) : Option (Option Nat × Nat × Int × Nat × Nat) :=
  match K1 L env o, o.op, H6 o with
  | some true, .makeSlice t lx cx, some d => match P2 C.T t, ev C.GL env lx, ev C.GL env cx with
    | some i, .d (.int .i64 (.ofNat 0)), .d (.int .i64 m) => match i.u with
      | .sl e => match P2 C.T e with
        | some j => some (d, e, m, j.bytes, j.size)
        | none => none
      | _ => none
    | _, _, _ => none
  | _, _, _ => none
theorem I0.mz {F : Fx} (hC : B2 F.C) {L l : List Oper} {o : Oper} {env : Env} {H H' : T0} {Q : Env → T0 → Prop} {d : Option Nat} {e p : Nat} {m : Int} {bytes sz : Nat} (h : A2c F.C L o env = some (d, e, m, bytes, sz))
    (h0 : 0 ≤ m ∧ m.toNat * (bytes + 1) ≤ 140737488355328) (hp : At H (.tok e sz) = some (p, H')) (k : I0 F L l (put env d (.osl p [])) H' Q) : I0 F L (o :: l) env H Q := by
  unfold A2c at h
  split at h
  · rename_i t lx cx d' hw ho hd
    split at h
    · rename_i i m' ht hlx hcx
      split at h
      · rename_i e' hu
        split at h
        · rename_i j he
          simp only [Option.some.injEq, Prod.mk.injEq] at h
          obtain ⟨rfl, rfl, rfl, rfl, rfl⟩ := h
          obtain ⟨rfl, rfl⟩ := Zl hp
          obtain ⟨hn0, hroom⟩ := h0
          obtain ⟨N, rfl⟩ : ∃ N : Nat, m' = N := ⟨m'.toNat, by omega⟩
          simp only [Int.toNat_natCast] at *
          have hNle : N ≤ 140737488355328 := Nat.le_trans (Nat.le_mul_of_pos_right N (Nat.succ_pos _)) hroom
          refine Ja hw fun fr M G w a K Qw hK hdok hs hsi hk => ?_
          have hx1 := hs.eval lx
          have hx2 := hs.eval cx
          rw [hlx] at hx1
          rw [hcx] at hx2
          generalize hv1 : a.eval lx = v1 at hx1
          generalize hv2 : a.eval cx = v2 at hx2
          cases hx1; rename_i hx1; cases hx1
          cases hx2; rename_i hx2; cases hx2
          have hdd := Rj (hC.tok.facts ht) hu
          obtain ⟨j', q1, q2, q3, z1, q4, q5, q6, q7⟩ := (hC.tok.facts he).info
          have hbytes : ((j'.bytes : Int) * (N : Int)) ≤ 281474976710656 := by
            have h1 : j.bytes * N ≤ 140737488355328 := Nat.le_trans (by rw [Nat.mul_comm]; exact Nat.mul_le_mul_left N (Nat.le_succ _)) hroom
            have h2 : ((j.bytes * N : Nat) : Int) = (j.bytes : Int) * (N : Int) := by simp
            rw [q3]
            omega
          have hrun : (execOp a.eval o).run F.C.P w = .ok (.value (.slice (some ⟨w.heap.size, 0, none⟩) 0 N)) (w.alloc (.cells (madeCells z1.cells (N * j'.size)) e')) := by
            have := run_make (P := F.C.P) w t e' j' z1 hdd q1 q4 .i64 .i64 0 N (Int.le_refl _) (by omega) hbytes (by omega)
            simp only [Int.toNat_natCast, Int.toNat_zero] at this
            unfold execOp
            simp only [ho, hv1, hv2, Int.ofNat_eq_natCast, Int.cast_ofNat_Int, Sem.run_bind, this, Result.andThen_ok, Sem.run_pure]
          have hml : N ≤ maxLen := by unfold maxLen; omega
          have hM : ∀ off sp, M ⟨w.heap.size, off, sp⟩ = none := fun off sp => by
            cases hM : M ⟨w.heap.size, off, sp⟩ with
            | none => rfl
            | some v => have := hs.good.lt hM; simp at this
          have hob : Uh M G (w.alloc (.cells (madeCells z1.cells (N * j'.size)) e')) (.tok e' j.size) (.slice (some ⟨w.heap.size, 0, none⟩) 0 N) :=
            .inr ⟨_, 0, N, rfl, .inr rfl, Nat.zero_le _, hml, fun _ => ⟨rfl, _, heap_alloc_new w _, by rw [size_madeCells, q2]; exact Nat.le_refl _, fun k sp _ => hM k sp⟩⟩
          have hb : ∀ b, blk (.tok e' j.size) (.slice (some ⟨w.heap.size, 0, none⟩) 0 N) = some b → w.heap.size ≤ b := fun b hb => by
            simp only [blk] at hb
            split at hb
            · simp only [Option.some.injEq] at hb; omega
            · cases hb
          unfold Oper.wp
          rw [hrun]
          rw [← S3 hd] at k
          refine hk _ _ _ _ _ _ _ k (hs.newTok (Q4 hdok) (Zm J6 M w _) (hs.good.alloc _) hob hb (.osl (.sl 0 (fun _ _ => undef) rfl (Nat.zero_le _) hml (.inr rfl) (fun i r h => by simp at h) (fun i j r x h => by simp at h) (fun i j r x h => by simp at h)) X2)) (hsi.newTok (Zm J6 M w _) hb)
        · cases h
      · cases h
    · cases h
  · cases h
theorem P1y {ps : List Nat} {H : T0} {p : Nat} {x : Ob} (hp : p < H.length) (hn : ps.contains p = false) : Ha (H4 ps H) p x = H4 ps (Ha H p x) := by
  apply List.ext_getElem?
  intro n
  rw [Z8 _ _ _ _ (by rw [Sc]; exact hp), Pg, Pg, Z8 _ _ _ _ hp]
  by_cases e : n = p
  · subst e
    rw [if_pos rfl, if_pos rfl, Option.map_some, hn]
    rfl
  · rw [if_neg e, if_neg e]
theorem N1u : ∀ (H : T0) (n : Nat) (x : Ob), Pm H n x = some (Ha H n x)
  | [], _, _ => rfl
  | _ :: _, 0, _ => rfl
  | y :: r, n + 1, x => by simp only [Pm, Ha, N1u r n x]
theorem I25 {C : Cx} {L : List Oper} {o : Oper} {env env' : Env} {H : T0} (h : ∀ t ∈ Lc L o, env' t = env t) : N11 C L o env' H = N11 C L o env H := by
  have hop : ∀ y ∈ o.op.operands, ev C.GL env' y = ev C.GL env y := fun y hy => H16 fun t ht => h t (by
    subst ht
    simp only [Lc, List.mem_append, List.mem_filterMap]
    exact .inl ⟨.tmp t, by simpa using hy, rfl⟩)
  unfold N11
  rw [Vt h]
  split
  · rename_i t x y hw ho hd
    rw [hop x (by rw [ho]; simp [Op.operands]), hop y (by rw [ho]; simp [Op.operands])]
  · rfl
def H22 (C : Cx) (o : Oper) (env : Env) : Option Nat :=
  match o.op with
  | .store _ x _ => match ev C.GL env x with | .ref p _ => some p | _ => none
  | _ => none
theorem A18.s {F : Fx} (hC : B2 F.C) {L : List Oper} {o : Oper} {env : Env} {H H' : T0} {un : List Nat} {p : Nat} (h : N11 F.C L o env H = some H') (hp : H22 F.C o env = some p) (hun : un.contains p = false) :
    ∀ ps : List Nat, (∀ q ∈ ps, q ∈ un) → A18 F L o env (H4 ps H) .junk (H4 ps H') := by
  intro ps hps env' K he Q hq
  have hpn : ps.contains p = false := by
    cases hb : ps.contains p with
    | false => rfl
    | true =>
      have h1 := hps p (by simpa using hb)
      have h2 : un.contains p = true := by simpa using h1
      rw [hun] at h2; cases h2
  have h' : N11 F.C L o env' (H4 ps H) = some (H4 ps H') := by
    rw [I25 he]
    unfold N11 at h ⊢
    split at h
    · rename_i t x y hw ho hd
      unfold H22 at hp
      rw [ho] at hp
      simp only at hp
      split at h
      · rename_i i p' off xs ht hx hxs
        rw [hx] at hp
        simp only [Option.some.injEq] at hp
        subst hp
        split at h
        · rename_i cells e hn
          have hn' : nth (H4 ps H) p' = some (.row cells e) := by
            rw [F3] at hn ⊢
            rw [Pg, hn, Option.map_some, hpn]
            rfl
          simp only [hn']
          cases hb : Nat.beq xs.length i.size && Nat.ble (off + i.size) cells.length with
          | false => rw [hb] at h; cases h
          | true =>
            rw [hb] at h
            simp only [_root_.cond_true] at h
            split at h
            · rename_i cs hcs
              show Pm (H4 ps H) p' (Ob.row cs e) = _
              have e1 := Cw h
              subst e1
              rw [F3] at hn
              have hlt := (List.getElem?_eq_some_iff.1 hn).1
              have : Pm (H4 ps H) p' (.row cs e) = some (Ha (H4 ps H) p' (.row cs e)) := N1u _ _ _
              exact this.trans (by rw [P1y hlt hpn])
            · cases h
        · cases h
      · cases h
    · cases h
  have hd : o.dst = none := by
    unfold N11 at h
    split at h
    · rename_i hd; exact hd
    · cases h
  rw [hd] at hq
  exact I0.s (F := ⟨F.C, F.N, K⟩) hC h' (I0.nil hq)
section
variable {F : Fx} {L l : List Oper} {o : Oper} {env : Env} {ls : List Nat} {fs : List (Nat × Nat)} {Hs : List T0} {j i : Nat} {Q : Env → Prop}
theorem AS.s (hC : B2 F.C) {H H' : T0} {p : Nat} (h1 : nth ls i = some j) (hf : Bp fs j = none) (h2 : nth Hs i = some H) (h3 : nth Hs (i + 1) = some H') (h : N11 F.C L o env H = some H') (hp : H22 F.C o env = some p)
    (hun : (unw L fs j).contains p = false) (k : AS F L ls fs Hs (j + 1) (i + 1) l env Q) : AS F L ls fs Hs j i (o :: l) env Q := by
  have hw : K1 L env o = some true ∧ o.dst = none := by
    unfold N11 at h
    split at h
    · rename_i hw ho hd; exact ⟨hw, hd⟩
    · cases h
  exact .inr (.inl ⟨.junk, H, H', h1, hf, hw.1, h2, h3, A18.s hC h hp hun, by rw [hw.2]; exact k⟩)
end
end Go.Am

namespace Go.Am
def I22 (T : TT) (t : Nat) (parts : List (Nat × A)) : Option A :=
  match P2 T t with
  | none => none
  | some i => match i.u with
    | .st fs => (Qx (fun n => (nth fs n).map fun f => (f.2.1, f.2.2)) (i.zero.map zf) parts).map .agg
    | _ => none
section
variable {P : Program} {M : Mem} {G : Nat → Value} {w : World}
theorem B2c {T : TT} (hT : TOk P T) {t : Nat} {parts : List (Nat × A)} {J1 : Array (Nat × Value)} (hl : parts.length = J1.size)
    (hp : ∀ (i : Nat) p q, parts[i]? = some p → J1[i]? = some q → p.1 = q.1 ∧ B1 M G p.2 q.2) {z : A} (h : I22 T t parts = some z) : Ir P M G w (Instr.build t J1) z := by
  unfold I22 at h
  split at h
  · cases h
  · rename_i i ht
    have f := hT.facts ht
    obtain ⟨zv, hz1, hz2⟩ := L1g (M := M) (G := G) hT ht
    split at h
    · rename_i fs hu
      obtain ⟨flds, hd, hf, hfl⟩ := Z1x f hu
      cases ho : Qx (fun n => (nth fs n).map fun f => (f.2.1, f.2.2)) (i.zero.map zf) parts with
      | none => rw [ho] at h; cases h
      | some out =>
        rw [ho] at h
        simp only [Option.map_some, Option.some.injEq] at h
        subst h
        obtain ⟨places, hp1, hp2⟩ := S1t (P := P) w flds (fun n f hn => by
          obtain ⟨g, hg⟩ := hfl n f hn
          obtain ⟨f', e1, e2, _, _, _, e6⟩ := hf n g hg
          rw [hn] at e1
          cases e1
          rw [e2]; exact e6)
        have hsame : ∀ n, places[n]? = ((nth fs n).map fun f => (f.2.1, f.2.2)) := fun n => by
          rw [F3, hp2 n]
          cases hn : fs[n]? with
          | none =>
            have : flds[n]? = none := by
              cases hfn : flds[n]? with
              | none => rfl
              | some f => obtain ⟨g, hg⟩ := hfl n f hfn; rw [hg] at hn; cases hn
            rw [this]; rfl
          | some g =>
            obtain ⟨f', e1, e2, e3, e4, _, _⟩ := hf n g hn
            rw [e1]
            simp [e2, e3, e4]
        have hfun : (fun n => places[n]?) = (fun n => (nth fs n).map fun f => (f.2.1, f.2.2)) := funext hsame
        have : Qx (fun n => places[n]?) (i.zero.map zf) parts = some out := by rw [hfun]; exact ho
        obtain ⟨ws, g1, g2, g3, g4⟩ := L1c hz2 (by rw [Array.length_toList]; exact hl) (fun n p q a b => hp n p q a (by simpa using b)) this
        refine ⟨.agg ws, ?_, .agg g2 g3 g4⟩
        simp only [Instr.build, Sem.run_bind, hz1, Result.andThen_ok, run_underlying hd, hp1, g1, Sem.run_pure]
    · cases h
end
def H1i (C : Cx) (L : List Oper) (o : Oper) (env : Env) : Option (Option Nat × A) :=
  match K1 L env o, o.op, H6 o with
  | some true, .build t parts, some d => match I22 C.T t (parts.toList.map fun p => (p.1, ev C.GL env p.2)) with
    | some y => match frc y with | some z => some (d, z) | none => none
    | none => none
  | _, _, _ => none
theorem B29 {C : Cx} {L : List Oper} {o : Oper} {env : Env} {d : Option Nat} {x : A} (h : H1i C L o env = some (d, x)) : H6 o = some d := by
  unfold H1i at h
  split at h
  · rename_i t parts d' hw ho hd
    split at h
    · split at h
      · simp only [Option.some.injEq, Prod.mk.injEq] at h
        rw [← h.1]; exact hd
      · cases h
    · cases h
  · cases h
theorem Q1y {C : Cx} (hC : B2 C) {L : List Oper} {o : Oper} {env : Env} {H : T0} {d : Option Nat} {x : A} (h : H1i C L o env = some (d, x)) : K1 L env o = some true ∧ H6 o = some d ∧ N7 C o env H x := by
  have hdd := B29 h
  unfold H1i at h
  split at h
  · rename_i t parts d' hw ho hd
    split at h
    · rename_i y hb
      split at h
      · rename_i z hz
        simp only [Option.some.injEq, Prod.mk.injEq] at h
        obtain ⟨rfl, rfl⟩ := h
        have := Ut hz
        subst this
        refine ⟨hw, hd, ?_⟩
        intro M G w a next Qw hρ hG _ hH hk
        have key : ∃ v, (execOp a.eval o).run C.P w = .ok (.value v) w ∧ B1 M G z v := by
          unfold execOp
          rw [ho] at hρ ⊢
          refine Ys (B2c hC.tok (by simp) (fun i p q hp hq => ?_) hb)
          simp only [List.getElem?_map, Array.getElem?_toList, Array.getElem?_map] at hp hq
          cases hpi : parts[i]? with
          | none => rw [hpi] at hp; cases hp
          | some pr =>
            rw [hpi] at hp hq
            simp only [Option.map_some, Option.some.injEq] at hp hq
            subst hp; subst hq
            exact ⟨rfl, hρ _ (by simp only [Op.operands, List.mem_toArray, List.mem_map]; exact ⟨pr, by simpa using Array.mem_of_getElem? hpi, rfl⟩)⟩
        obtain ⟨v, h1, h2⟩ := key
        unfold Oper.wp
        rw [h1]
        exact hk v M w h2 hG (Ext.refl _ _ _)
      · cases h
    · cases h
  · cases h
theorem I0.bz {F : Fx} (hC : B2 F.C) {L l : List Oper} {o : Oper} {env : Env} {H : T0} {Q : Env → T0 → Prop} {d : Option Nat} {x : A} (h : H1i F.C L o env = some (d, x)) (k : I0 F L l (put env d x) H Q) : I0 F L (o :: l) env H Q := by
  obtain ⟨h1, h2, h3⟩ := Q1y (H := H) hC h
  refine .yields h1 h3 ?_
  rw [S3 h2]
  exact k
theorem AQ.bz {C : Cx} (hC : B2 C) {L l : List Oper} {o : Oper} {env : Env} {H : T0} {Q : Env → Prop} {d : Option Nat} {x : A} (h : H1i C L o env = some (d, x)) (k : AQ C L l (put env d x) H Q) : AQ C L (o :: l) env H Q := by
  obtain ⟨h1, h2, h3⟩ := Q1y (H := H) hC h
  exact ⟨d, _, S3 h2, .inl ⟨h1, h3⟩, k⟩
end Go.Am

namespace Go.Am
theorem St.moveTok {C : Cx} {N : Nat} {M M' : Mem} {G : Nat → Value} {w w' : World} {env : Env} {H : T0} {a : Act} (h : St C N M G w env H a) {dst : Option Nat} (hd : ∀ d, dst = some d → d < N) {p e sz : Nat} {v' : Value} {x : A}
    (hp : H[p]? = some (.tok e sz)) (hext : Ext (fun b => blk (.tok e sz) (G p) = some b) M w M' w') (hg : H8 M' w') (hob : Uh M' G w' (.tok e sz) v') (hblk : ∀ b, blk (.tok e sz) v' = some b → blk (.tok e sz) (G p) = some b ∨ w.heap.size ≤ b)
    (hx : B1 M' (A7 G H.length v') x v') :
    St C N M' (A7 G H.length v') w' (put env dst x) (Ha H p .dead ++ [.tok e sz]) (a.put dst v') := by
  have hplt : p < H.length := (List.getElem?_eq_some_iff.1 hp).1
  have hl : (Ha H p .dead).length = H.length := Xl _ _ _
  have hmono : ∀ {x : A} {v : Value}, B1 M G x v → B1 M' (A7 G H.length v') x v := fun hr => hr.mono hext.mono fun o hn => R2 (Nat.ne_of_lt (h.hrel.lt hr hn))
  obtain ⟨h1, h2, h3⟩ := Ku (fun t => hmono (h.env t)) h.size hd hx
  have get : ∀ (o : Nat) x, (Ha H p .dead ++ [Ob.tok e sz])[o]? = some x → (o < H.length ∧ o ≠ p ∧ H[o]? = some x) ∨ (o = p ∧ x = .dead) ∨ (o = H.length ∧ x = .tok e sz) := fun o x ho => by
    rcases Nat.lt_trichotomy o H.length with hlt | rfl | hgt
    · rw [List.getElem?_append_left (by omega), Z8 _ _ _ _ hplt] at ho
      by_cases hop : o = p
      · rw [if_pos hop] at ho; cases ho; exact .inr (.inl ⟨hop, rfl⟩)
      · rw [if_neg hop] at ho; exact .inl ⟨hlt, hop, ho⟩
    · rw [List.getElem?_append_right (by omega), hl, Nat.sub_self] at ho
      simp at ho
      exact .inr (.inr ⟨rfl, ho.symm⟩)
    · rw [List.getElem?_eq_none (by simp; omega)] at ho
      cases ho
  refine ⟨hg, h.gl.ext h.hrel hext (fun b hb => ⟨p, _, hp, hb⟩), ⟨fun o x ho => ?_, fun o o' x x' b ho ho' hb hb' => ?_, fun o ho => ?_⟩, h1, h2, h3.trans h.defers⟩
  · rcases get o x ho with ⟨hlt, hop, hy⟩ | ⟨rfl, rfl⟩ | ⟨rfl, rfl⟩
    · rw [R2 (Nat.ne_of_lt hlt)]
      have hoy := h.hrel.obj o x hy
      have hob := hoy.keep hext.mono (fun b hb => hext.block b (He hoy hb) fun hb' => hop (h.hrel.apart o p x _ b hy hp hb hb')) fun b hb off sp hn => by
        cases hM : M' ⟨b, off, sp⟩ with
        | none => rfl
        | some u =>
          rcases hext.fresh _ u hM with q | q | q
          · rw [hn] at q; cases q
          · exact absurd (h.hrel.apart o p x _ b hy hp hb q) hop
          · have := He hoy hb; simp only at q; omega
      cases x with
      | dead => trivial
      | row cells e =>
        obtain ⟨b, us, g1, g2, g3, g4, g5, g6⟩ := hob
        obtain ⟨b0, us0, f1, f2, f3, f4, f5, f6⟩ := hoy
        rw [g1] at f1
        simp only [Value.pointer.injEq, Option.some.injEq, Addr.mk.injEq, and_true] at f1
        subst f1
        have hus : us = us0 := by
          have hk := hext.block b (He (h.hrel.obj o _ hy) (by rw [g1]; rfl)) fun hb' => hop (h.hrel.apart o p _ _ b hy hp (by rw [g1]; rfl) hb')
          rw [hk, f2] at g2
          simp only [Option.some.injEq, Obj.cells.injEq] at g2
          exact g2.1.symm
        subst hus
        exact ⟨b, us, g1, g2, g3, g4, fun i y v a c => hmono (f5 i y v a c), g6⟩
      | bld o' e =>
        obtain ⟨b, v0, g1, g2, g3, g4, g5⟩ := hob
        have ho' : o' ≠ H.length := fun e => g4 (by rw [e]; exact h.hrel.fresh _ (Nat.le_refl _))
        exact ⟨b, v0, g1, by rw [R2 ho']; exact g2, g3, by rw [R2 ho']; exact g4, g5⟩
      | buf e sz => exact hob
      | tok e sz => exact hob
      | map es =>
        obtain ⟨b, ms, cl, g1, g2, g3, g4, g5⟩ := hob
        obtain ⟨b0, ms0, cl0, f1, f2, f3, f4, f5⟩ := hoy
        rw [g1] at f1
        simp only [Value.map.injEq, Option.some.injEq] at f1
        subst f1
        have hus : ms = ms0 := by
          have hk := hext.block b (He (h.hrel.obj o _ hy) (by rw [g1]; rfl)) fun hb' => hop (h.hrel.apart o p _ _ b hy hp (by rw [g1]; rfl) hb')
          rw [hk, f2] at g2
          simp only [Option.some.injEq, Obj.map.injEq] at g2
          exact g2.1.symm
        subst hus
        exact ⟨b, ms, cl, g1, g2, g3, fun i k cs e a c => ⟨(g4 i k cs e a c).1, hmono (f4 i k cs e a c).2⟩, g5⟩
    · trivial
    · rw [X2]
      exact hob
  · have key : ∀ (o : Nat) x b, (Ha H p .dead ++ [Ob.tok e sz])[o]? = some x → blk x (A7 G H.length v' o) = some b → (o < H.length ∧ o ≠ p ∧ H[o]? = some x ∧ blk x (G o) = some b) ∨ (o = H.length ∧ (blk (.tok e sz) (G p) = some b ∨ w.heap.size ≤ b)) := by
      intro o x b ho hb
      rcases get o x ho with ⟨hlt, hop, hy⟩ | ⟨rfl, rfl⟩ | ⟨rfl, rfl⟩
      · rw [R2 (Nat.ne_of_lt hlt)] at hb
        exact .inl ⟨hlt, hop, hy, hb⟩
      · simp [blk] at hb
      · rw [X2] at hb
        exact .inr ⟨rfl, hblk b hb⟩
    rcases key o x b ho hb with ⟨q1, q2, q3, q4⟩ | ⟨q1, q2⟩ <;> rcases key o' x' b ho' hb' with ⟨p1, p2, p3, p4⟩ | ⟨p1, p2⟩
    · exact h.hrel.apart o o' x x' b q3 p3 q4 p4
    · rcases p2 with p2 | p2
      · exact absurd (h.hrel.apart o p x _ b q3 hp q4 p2) q2
      · have := He (h.hrel.obj o x q3) q4; omega
    · rcases q2 with q2 | q2
      · exact absurd (h.hrel.apart o' p x' _ b p3 hp p4 q2) p2
      · have := He (h.hrel.obj o' x' p3) p4; omega
    · omega
  · simp only [List.length_append, hl, List.length_cons, List.length_nil] at ho
    rw [R2 (by omega)]
    exact h.hrel.fresh o (by omega)
theorem M3.moveTok {fr : Fr} {M M' : Mem} {G : Nat → Value} {w w' : World} {H : T0} (h : M3 fr M G w H) {p e sz : Nat} {v' : Value}
    (hp : H[p]? = some (.tok e sz)) (hext : Ext (fun b => blk (.tok e sz) (G p) = some b) M w M' w') (hblk : ∀ b, blk (.tok e sz) v' = some b → blk (.tok e sz) (G p) = some b ∨ w.heap.size ≤ b) :
    M3 fr M' (A7 G H.length v') w' (Ha H p .dead ++ [.tok e sz]) := by
  have hplt : p < H.length := (List.getElem?_eq_some_iff.1 hp).1
  have hl : (Ha H p .dead).length = H.length := Xl _ _ _
  have get : ∀ (o : Nat) x, (Ha H p .dead ++ [Ob.tok e sz])[o]? = some x → (o < H.length ∧ o ≠ p ∧ H[o]? = some x) ∨ (o = p ∧ x = .dead) ∨ (o = H.length ∧ x = .tok e sz) := fun o x ho => by
    rcases Nat.lt_trichotomy o H.length with hlt | rfl | hgt
    · rw [List.getElem?_append_left (by omega), Z8 _ _ _ _ hplt] at ho
      by_cases hop : o = p
      · rw [if_pos hop] at ho; cases ho; exact .inr (.inl ⟨hop, rfl⟩)
      · rw [if_neg hop] at ho; exact .inl ⟨hlt, hop, ho⟩
    · rw [List.getElem?_append_right (by omega), hl, Nat.sub_self] at ho
      simp at ho
      exact .inr (.inr ⟨rfl, ho.symm⟩)
    · rw [List.getElem?_eq_none (by simp; omega)] at ho
      cases ho
  refine ⟨h.ext.trans hext fun b hb => h.own b ⟨p, _, hp, hb⟩, fun b ⟨o, z, hz, hb⟩ => ?_, by simp; have := h.len; omega, fun o x ho ht => ?_, fun o x y ho ht hy => ?_⟩
  · rcases get o z hz with ⟨hlt, hop, hy⟩ | ⟨rfl, rfl⟩ | ⟨rfl, rfl⟩
    · rw [R2 (Nat.ne_of_lt hlt)] at hb
      exact h.own b ⟨o, z, hy, hb⟩
    · simp [blk] at hb
    · rw [X2] at hb
      rcases hblk b hb with q | q
      · exact h.own b ⟨p, _, hp, q⟩
      · exact .inr (Nat.le_trans h.ext.size q)
  · have hlt : o < H.length := Nat.lt_of_lt_of_le (List.getElem?_eq_some_iff.1 ho).1 h.len
    rw [R2 (Nat.ne_of_lt hlt)]
    exact h.keep o x ho ht
  · have hlt : o < H.length := Nat.lt_of_lt_of_le (List.getElem?_eq_some_iff.1 ho).1 h.len
    rcases get o y hy with ⟨_, _, hy⟩ | ⟨_, rfl⟩ | ⟨rfl, _⟩
    · exact h.kind o x y ho ht hy
    · rfl
    · omega
def C18 (C : Cx) (L : List Oper) (o : Oper) (env : Env) (H : T0) : Option Ap :=
  match K1 L env o, o.op, H6 o with
  | some true, .call { callee := .builtin .append, args, argTypes }, some d =>
    match args.toList, argTypes.toList with
    | [x, y], [t, t'] => bif Nat.beq t t' then
      (match P2 C.T t, Zv (ev C.GL env y) with
      | some it, some news => match it.u with
        | .sl e => match P2 C.T e with
          | some ie => match ev C.GL env x with
            | .osl p rows => match nth H p with
              | some (.tok e' sz') => bif Nat.beq e e' && Nat.beq ie.size sz' then some ⟨d, p, false, rows, news, ie.size, ie.bytes, Ha H p .dead ++ [.tok e ie.size]⟩ else none
              | _ => none
            | .full rows => some ⟨d, H.length, true, rows, news, ie.size, ie.bytes, H ++ [.tok e ie.size]⟩
            | _ => none
          | none => none
        | _ => none
      | _, _ => none) else none
    | _, _ => none
  | _, _, _ => none
theorem I0.am {F : Fx} (hC : B2 F.C) {L l : List Oper} {o : Oper} {env : Env} {H : T0} {Q : Env → T0 → Prop} {d : Option Nat} {p : Nat} {nw : Bool} {rows news : List Row} {sz bytes : Nat} {H' : T0}
    (h : C18 F.C L o env H = some ⟨d, p, nw, rows, news, sz, bytes, H'⟩) (h1 : ∀ r ∈ rows, r.length = sz) (h2 : ∀ r ∈ news, r.length = sz) (h3 : (rows.length + news.length) * (bytes + 1) ≤ 140737488355328)
    (k : I0 F L l (put env d (.osl H.length (rows ++ news))) H' Q) : I0 F L (o :: l) env H Q := by
  unfold C18 at h
  split at h
  · rename_i args ts dd hw ho hd
    split at h
    · rename_i x y t t' ha ht
      cases hb : Nat.beq t t' with
      | false => rw [hb] at h; cases h
      | true =>
        rw [hb] at h
        obtain rfl := Nat.eq_of_beq_eq_true hb
        simp only [cond_true] at h
        split at h
        · rename_i it news' hit hnews
          split at h
          · rename_i e hu
            split at h
            · rename_i ie hie
              have hmem : x ∈ o.op.operands ∧ y ∈ o.op.operands := by
                rw [ho]
                obtain rfl : args = #[x, y] := by rw [← Array.toArray_toList (xs := args), ha]
                simp [Op.operands, Call.operands]
              have hlen : (rows.length + news.length) * bytes ≤ 140737488355328 ∧ rows.length + news.length ≤ maxLen := by
                have : (rows.length + news.length) * (bytes + 1) = (rows.length + news.length) * bytes + (rows.length + news.length) := Nat.mul_succ _ _
                unfold maxLen
                omega
              split at h
              · rename_i q rows' hx
                split at h
                · rename_i e' sz' hq
                  cases hbb : Nat.beq e e' && Nat.beq ie.size sz' with
                  | false => rw [hbb] at h; cases h
                  | true =>
                    rw [hbb] at h
                    simp only [Bool.and_eq_true] at hbb
                    obtain rfl := Nat.eq_of_beq_eq_true hbb.1
                    obtain rfl := Nat.eq_of_beq_eq_true hbb.2
                    simp only [cond_true] at h
                    simp only [Option.some.injEq, Ap.mk.injEq] at h
                    obtain ⟨rfl, rfl, rfl, rfl, rfl, rfl, rfl, rfl⟩ := h
                    refine Ja hw fun fr M G w a K Qw hK hdok hs hsi hk => ?_
                    have hxr := hs.eval x
                    rw [hx] at hxr
                    generalize hxv : a.eval x = xv at hxr
                    cases hxr
                    rename_i hgq hrd
                    rw [F3] at hq
                    have htok : Tok M w e ie.size xv := by have := hs.hrel.obj _ _ hq; rw [hgq] at this; exact this
                    obtain ⟨v', w', M', r1, r2, r3, r4, r5, r6⟩ := K17 (ty := o.type) hC.tok hs.good hit hu hie hrd (Wh hnews (hs.eval y)) htok h1 h2 hlen.1 hlen.2
                    unfold Oper.wp
                    rw [Wt ho ha ht (by rw [hxv]; exact r1)]
                    rw [← hgq] at r5 r6
                    refine hk (.osl H.length (rows' ++ news')) env _ M' (A7 G H.length v') w' v' ?_ (hs.moveTok (Q4 hdok) hq r5 r4 r3 r6 (.osl r2 X2)) (hsi.moveTok hq r5 r6)
                    rw [S3 hd]
                    exact k
                · cases h
              · rename_i rows' hx
                simp only [Option.some.injEq, Ap.mk.injEq] at h
                obtain ⟨rfl, rfl, rfl, rfl, rfl, rfl, rfl, rfl⟩ := h
                refine Ja hw fun fr M G w a K Qw hK hdok hs hsi hk => ?_
                have hxr := hs.eval x
                rw [hx] at hxr
                generalize hxv : a.eval x = xv at hxr
                cases hxr
                rename_i hfull hrd
                obtain ⟨t1, t2⟩ := Lu (G := fun _ => .tuple #[]) (w := w) hrd hfull e ie.size
                obtain ⟨v', w', M', r1, r2, r3, r4, r5, r6⟩ := K17 (ty := o.type) hC.tok hs.good hit hu hie hrd (Wh hnews (hs.eval y)) t1 h1 h2 hlen.1 hlen.2
                unfold Oper.wp
                rw [Wt ho ha ht (by rw [hxv]; exact r1)]
                have r5' : Ext J6 M w M' w' := r5.weaken fun b hb => absurd hb (t2 b)
                have r6' : ∀ b, blk (.tok e ie.size) v' = some b → w.heap.size ≤ b := fun b hb => (r6 b hb).resolve_left (t2 b)
                refine hk (.osl H.length (rows' ++ news')) env _ M' (A7 G H.length v') w' v' ?_ (hs.newTok (Q4 hdok) r5' r4 r3 r6' (.osl r2 X2)) (hsi.newTok r5' r6')
                rw [S3 hd]
                exact k
              · cases h
            · cases h
          · cases h
        · cases h
    · cases h
  · cases h
end Go.Am

namespace Go.Am
theorem R1y {ps : List Nat} {H : T0} {x : Ob} (hn : ∀ q ∈ ps, q < H.length) : H4 ps (H ++ [x]) = H4 ps H ++ [x] := by
  apply List.ext_getElem?
  intro n
  rw [Pg]
  by_cases hlt : n < H.length
  · rw [List.getElem?_append_left hlt, List.getElem?_append_left (by rw [Sc]; exact hlt), Pg]
  · rw [List.getElem?_append_right (by omega), List.getElem?_append_right (by rw [Sc]; omega), Sc]
    have : ps.contains n = false := by
      cases hb : ps.contains n with
      | false => rfl
      | true => exact absurd (hn n (by simpa using hb)) hlt
    cases [x][n - H.length]? with
    | none => rfl
    | some y => simp only [Option.map_some, this]; rfl
theorem J22 {C : Cx} {L : List Oper} {o : Oper} {env env' : Env} {H H' : T0} {ps : List Nat} {d : Option Nat} {p : Nat} {nw : Bool} {rows news : List Row} {sz bytes : Nat} (he : ∀ t ∈ Lc L o, env' t = env t)
    (h : C18 C L o env H = some ⟨d, p, nw, rows, news, sz, bytes, H'⟩) (hps : ∀ q ∈ ps, q < H.length) (hp : ps.contains p = false) :
    ∃ p', C18 C L o env' (H4 ps H) = some ⟨d, p', nw, rows, news, sz, bytes, H4 ps H'⟩ := by
  have hop : ∀ y ∈ o.op.operands, ev C.GL env' y = ev C.GL env y := fun y hy => H16 fun t ht => he t (by
    subst ht
    simp only [Lc, List.mem_append, List.mem_filterMap]
    exact .inl ⟨.tmp t, by simpa using hy, rfl⟩)
  unfold C18 at h ⊢
  rw [Vt he]
  split at h
  · rename_i args ts dd hw ho hd
    split at h
    · rename_i x y t t' ha ht
      have hmem : x ∈ o.op.operands ∧ y ∈ o.op.operands := by
        rw [ho]
        obtain rfl : args = #[x, y] := by rw [← Array.toArray_toList (xs := args), ha]
        simp [Op.operands, Call.operands]
      rw [hop x hmem.1, hop y hmem.2]
      cases hb : Nat.beq t t' with
      | false => rw [hb] at h; cases h
      | true =>
        rw [hb] at h
        simp only [cond_true] at h
        split at h
        · rename_i it news' hit hnews
          split at h
          · rename_i e hu
            split at h
            · rename_i ie hie
              split at h
              · rename_i q rows' hx
                split at h
                · rename_i e' sz' hq
                  cases hbb : Nat.beq e e' && Nat.beq ie.size sz' with
                  | false => rw [hbb] at h; cases h
                  | true =>
                    rw [hbb] at h
                    simp only [cond_true, Option.some.injEq, Ap.mk.injEq] at h
                    obtain ⟨rfl, rfl, rfl, rfl, rfl, rfl, rfl, rfl⟩ := h
                    have hlt : q < H.length := (List.getElem?_eq_some_iff.1 (by rw [F3] at hq; exact hq)).1
                    have hq' : nth (H4 ps H) q = some (.tok e' sz') := by
                      rw [F3] at hq ⊢
                      rw [Pg, hq, Option.map_some, hp]
                      rfl
                    refine ⟨q, ?_⟩
                    rw [R1y (by rw [Xl]; exact hps), ← P1y hlt hp]
                    simp [hq', hbb]
                · cases h
              · rename_i rows' hx
                simp only [Option.some.injEq, Ap.mk.injEq] at h
                obtain ⟨rfl, rfl, rfl, rfl, rfl, rfl, rfl, rfl⟩ := h
                refine ⟨(H4 ps H).length, ?_⟩
                rw [R1y hps]
                simp
              · cases h
            · cases h
          · cases h
        · cases h
    · cases h
  · cases h
theorem C29 {C : Cx} {L : List Oper} {o : Oper} {env : Env} {H : T0} {r : Ap} (h : C18 C L o env H = some r) : K1 L env o = some true ∧ H6 o = some r.d := by
  unfold C18 at h
  split at h
  · rename_i args ts dd hw ho hd
    refine ⟨hw, ?_⟩
    split at h
    · rename_i x y t t' ha ht
      cases hb : Nat.beq t t' with
      | false => rw [hb] at h; cases h
      | true =>
        rw [hb] at h
        simp only [cond_true] at h
        split at h
        · split at h
          · split at h
            · split at h
              · split at h
                · obtain ⟨_, h⟩ := L16 h
                  simp only [Option.some.injEq] at h; subst h; exact hd
                · cases h
              · simp only [Option.some.injEq] at h; subst h; exact hd
              · cases h
            · cases h
          · cases h
        · cases h
    · cases h
  · cases h
section
variable {F : Fx} {L l : List Oper} {o : Oper} {env : Env} {ls : List Nat} {fs : List (Nat × Nat)} {Hs : List T0} {j i : Nat} {Q : Env → Prop}
theorem AS.am (hC : B2 F.C) {H H' : T0} {d : Option Nat} {p q : Nat} {nw : Bool} {rows news rs : List Row} {sz bytes : Nat} (h1 : nth ls i = some j) (hf : Bp fs j = none) (h2 : nth Hs i = some H) (h3 : nth Hs (i + 1) = some H')
    (h : C18 F.C L o env H = some ⟨d, p, nw, rows, news, sz, bytes, H'⟩) (e : rs = rows ++ news) (k1 : ∀ r ∈ rows, r.length = sz) (k2 : ∀ r ∈ news, r.length = sz) (k3 : (rows.length + news.length) * (bytes + 1) ≤ 140737488355328)
    (hq : H.length = q) (hun : ((unw L fs j).all (fun p => Nat.blt p H.length) && !(unw L fs j).contains p) = true) (k : AS F L ls fs Hs (j + 1) (i + 1) l (put env d (.osl q rs)) Q) : AS F L ls fs Hs j i (o :: l) env Q := by
  subst e; subst hq
  obtain ⟨w1, w2⟩ := C29 h
  have hd := S3 w2
  simp only [Bool.and_eq_true, List.all_eq_true] at hun
  refine .inr (.inl ⟨.osl H.length (rows ++ news), H, H', h1, hf, w1, h2, h3, fun ps hps env' K he Q hq => ?_, by rw [hd]; exact k⟩)
  have hn : ps.contains p = false := by
    cases hb : ps.contains p with
    | false => rfl
    | true =>
      have h5 := hps p (by simpa using hb)
      have h6 : (unw L fs j).contains p = true := by simpa using h5
      rw [h6] at hun; exact absurd hun.2 (by simp)
  obtain ⟨p', hs⟩ := J22 he h (fun q hq => Nat.le_of_ble_eq_true (hun.1 q (hps q hq))) hn
  refine I0.am (F := ⟨F.C, F.N, K⟩) hC hs k1 k2 k3 (I0.nil ?_)
  rw [Sc]
  rw [hd] at hq
  exact hq
end
end Go.Am

namespace Go.Am
theorem L17 {sz : Nat} : ∀ {rows : List Row}, (∀ r ∈ rows, r.length = sz) → rows.flatten.length = rows.length * sz
  | [], _ => by simp
  | r :: rs, h => by
    rw [List.flatten_cons, List.length_append, L17 fun x hx => h x (List.mem_cons_of_mem _ hx), h r List.mem_cons_self, List.length_cons, Nat.add_mul]
    omega
theorem N1g {sz : Nat} : ∀ {rows : List Row}, (∀ r ∈ rows, r.length = sz) → ∀ {i j : Nat} {r : Row} {x : D}, rows[i]? = some r → r[j]? = some x → rows.flatten[i * sz + j]? = some x
  | [], _, i, j, r, x, h, _ => by simp at h
  | r0 :: rs, hsz, 0, j, r, x, h, hx => by
    simp at h; subst h
    have hj := (List.getElem?_eq_some_iff.1 hx).1
    rw [List.flatten_cons, List.getElem?_append_left (by omega), Nat.zero_mul, Nat.zero_add]
    exact hx
  | r0 :: rs, hsz, i + 1, j, r, x, h, hx => by
    have h0 := hsz r0 List.mem_cons_self
    rw [List.flatten_cons, List.getElem?_append_right (by rw [h0, Nat.add_mul]; omega), h0, Nat.add_mul, show i * sz + 1 * sz + j - sz = i * sz + j by omega]
    exact N1g (fun x hx => hsz x (List.mem_cons_of_mem _ hx)) (by simpa using h) hx
theorem C1r {sz : Nat} : ∀ {rows : List Row}, (∀ r ∈ rows, r.length = sz) → ∀ {k : Nat} {x : D}, rows.flatten[k]? = some x → ∃ i j r, k = i * sz + j ∧ j < sz ∧ rows[i]? = some r ∧ r[j]? = some x
  | [], _, k, x, h => by simp at h
  | r0 :: rs, hsz, k, x, h => by
    have h0 := hsz r0 List.mem_cons_self
    rw [List.flatten_cons] at h
    by_cases hk : k < sz
    · rw [List.getElem?_append_left (by omega)] at h
      exact ⟨0, k, r0, by omega, hk, rfl, h⟩
    · rw [List.getElem?_append_right (by omega), h0] at h
      obtain ⟨i, j, r, e1, e2, e3, e4⟩ := C1r (fun x hx => hsz x (List.mem_cons_of_mem _ hx)) h
      exact ⟨i + 1, j, r, by rw [Nat.add_mul]; omega, e2, by simpa using e3, e4⟩
theorem K22 {P : Program} {T : TT} (hT : TOk P T) {M : Mem} {G : Nat → Value} {w : World} (hG : H8 M w) {t e ty : Nat} {it ie : TI} (ht : P2 T t = some it) (hu : it.u = .sl e) (he : P2 T e = some ie) {news : List Row} {v u : Value}
    (hv : O2 M (.sl []) v) (hf : M1t v) (hnv : O2 M (.sl news) u) (hne : news ≠ []) (hn : ∀ r ∈ news, r.length = ie.size) (hb : news.length * ie.bytes ≤ 140737488355328) (hm : news.length ≤ maxLen) :
    ∃ cap vs, (Builtin.append_ #[t, t] ty #[v, u]).run P w = .ok (.slice (some ⟨w.heap.size, 0, none⟩) news.length cap) (w.drew.alloc (.cells vs e)) ∧ news.length ≤ cap ∧ cap ≤ maxLen ∧ Q1h M G (news.flatten.map .d) vs := by
  have fe := hT.facts he
  have hd := Rj (hT.facts ht) hu
  obtain ⟨info, hi, hsz, hby, z, hz, hzl, hzb, _⟩ := fe.info
  obtain ⟨nvals, hnr, hnsh⟩ := X1r hG hnv hn
  have hlen : 0 < news.length := by cases news with | nil => exact absurd rfl hne | cons _ _ => simp
  rcases hnsh with ⟨rfl, rfl⟩ | ⟨na, ncap, rfl, hns, hnc, hncm, hnM, hncell⟩
  · exact absurd rfl hne
  have hbytes : news.length * info.bytes ≤ 140737488355328 := by rw [hby]; exact hb
  have hnl : (Ca ie.size news.length nvals).length = news.length * info.size := by rw [Xi, hsz]
  have hncell' : ∀ (j : Nat) u, (Ca ie.size news.length nvals)[j]? = some u → w.cell? (na.add j) = some u := fun j u hu => (hncell j u hu).1
  have hone : ∀ (n : Nat) (i : Nat) v, (Builtin.zeroCells z.cells n)[i]? = some v → v.oneCell' = true := fun n i v hv => by
    unfold Builtin.zeroCells at hv
    rw [Array.getElem?_map] at hv
    cases hr : (Array.range (n * z.cells.size))[i]? with
    | none => rw [hr] at hv; cases hv
    | some q =>
      rw [hr] at hv
      simp only [Option.map_some, Option.some.injEq] at hv
      have hq := (Array.getElem?_eq_some_iff.1 hr).1
      simp only [Array.size_range] at hq
      have hpos : 0 < z.cells.size := by
        rcases Nat.eq_zero_or_pos z.cells.size with h0 | h0
        · rw [h0] at hq; omega
        · exact h0
      have hlt : q % z.cells.size < z.cells.size := Nat.mod_lt _ hpos
      have hget : z.cells[q % z.cells.size]? = some v := by
        rw [← hv]
        simp [hlt]
      have hlz : q % z.cells.size < ie.zero.length := by rw [← hzl]; simpa using hlt
      exact (Xs (hzb _ v _ hget (List.getElem?_eq_getElem hlz)) M).one
  have cells : ∀ zs : Array Value, (∀ (i : Nat) v, zs[i]? = some v → v.oneCell' = true) → Q1h M G (news.flatten.map .d) ((Ca ie.size news.length nvals).toArray ++ zs) := fun zs hzs => by
    refine ⟨?_, fun i v hv => ?_, fun i x v hx hv => ?_⟩
    · simp only [List.length_map, Array.size_append, List.size_toArray]
      rw [L17 hn, Xi]
      omega
    · by_cases hlt : i < (Ca ie.size news.length nvals).length
      · rw [Array.getElem?_append_left (by simpa using hlt), List.getElem?_toArray] at hv
        exact (hncell i v hv).2
      · rw [Array.getElem?_append_right (by simp; omega)] at hv
        exact hzs _ v hv
    · rw [List.getElem?_map] at hx
      cases hfx : news.flatten[i]? with
      | none => rw [hfx] at hx; cases hx
      | some y =>
        rw [hfx] at hx
        simp only [Option.map_some, Option.some.injEq] at hx
        subst hx
        obtain ⟨r, j, row, e1, e2, e3, e4⟩ := C1r hn hfx
        have hr := (List.getElem?_eq_some_iff.1 e3).1
        have hg := F1f (sz := ie.size) (m := news.length) (J1 := nvals) e2 hr
        have hlt : i < (Ca ie.size news.length nvals).length := by rw [e1]; exact (List.getElem?_eq_some_iff.1 hg).1
        rw [Array.getElem?_append_left (by simpa using hlt), List.getElem?_toArray, e1, hg] at hv
        cases hv
        exact .d (hnr r j row y e3 e4)
  have nil0 : ∀ x : Array Value, (#[] ++ x) = x := fun x => by simp
  cases hv with
  | slnil =>
    have hrun := run_append_nil (P := P) w t ty e info z hd hi hz na news.length ncap (Ca ie.size news.length nvals) hnl hncell' hlen (by unfold maxLen at hm; omega) (by omega)
    exact ⟨_, _, hrun, grownCap_ge w _ _ e, grownCap_le_maxLen w _ _ e hm, cells _ (hone _)⟩
  | sl sz' J1 hl hc hcm hs hz' h1 h2 =>
    rename_i a len cap
    have hl0 : len = 0 := by simpa using hl.symm
    subst hl0
    have hc0 : (0 : Nat) = cap := hf
    subst hc0
    have hrun := run_append_grow (P := P) w t ty e info z hd hi hz a 0 0 [] (by simp) (fun j u hu' => by simp at hu') na news.length ncap (Ca ie.size news.length nvals) hnl hncell'
      (by omega) (by unfold maxLen at hm; omega) (growslice_fits (by omega) (by simpa using hbytes))
    simp only [Nat.zero_add] at hrun
    exact ⟨_, _, hrun, grownCap_ge w _ _ e, grownCap_le_maxLen w _ _ e hm, by
      have := cells (Builtin.zeroCells z.cells (grownCap w news.length 0 e - news.length)) (hone _)
      simpa using this⟩
def C2c (C : Cx) (L : List Oper) (o : Oper) (env : Env) : Option (Option Nat × Nat × List Row × Nat × Nat) :=
  match K1 L env o, o.op, H6 o with
  | some true, .call { callee := .builtin .append, args, argTypes }, some d =>
    match args.toList, argTypes.toList with
    | [x, y], [t, t'] => bif Nat.beq t t' then
      (match P2 C.T t, Zv (ev C.GL env y), ev C.GL env x with
      | some it, some news, .full [] => match it.u with
        | .sl e => match P2 C.T e with
          | some ie => some (d, e, news, ie.size, ie.bytes)
          | none => none
        | _ => none
      | _, _, _ => none) else none
    | _, _ => none
  | _, _, _ => none
theorem I0.an {F : Fx} (hC : B2 F.C) {L l : List Oper} {o : Oper} {env : Env} {H H' : T0} {Q : Env → T0 → Prop} {d : Option Nat} {e p n : Nat} {news : List Row} {sz bytes : Nat} {cs : List A}
    (h : C2c F.C L o env = some (d, e, news, sz, bytes)) (hne : news ≠ []) (h1 : ∀ r ∈ news, r.length = sz) (h3 : news.length * (bytes + 1) ≤ 140737488355328) (hcs : cs = news.flatten.map .d) (hn : news.length = n) (hp : At H (.row cs e) = some (p, H'))
    (k : I0 F L l (put env d (.rsl p 0 n n)) H' Q) : I0 F L (o :: l) env H Q := by
  subst hcs; subst hn
  obtain ⟨rfl, rfl⟩ := Zl hp
  unfold C2c at h
  split at h
  · rename_i args ts dd hw ho hd
    split at h
    · rename_i x y t t' ha ht
      obtain ⟨hb, h5⟩ := L16 h
      clear h
      obtain rfl := Nat.eq_of_beq_eq_true hb
      split at h5
      · rename_i it news' hit hnews hx
        split at h5
        · rename_i e' hu
          split at h5
          · rename_i ie hie
            simp only [Option.some.injEq, Prod.mk.injEq] at h5
            obtain ⟨rfl, rfl, rfl, rfl, rfl⟩ := h5
            have hlen : news'.length * ie.bytes ≤ 140737488355328 ∧ news'.length ≤ maxLen := by
              have : news'.length * (ie.bytes + 1) = news'.length * ie.bytes + news'.length := Nat.mul_succ _ _
              unfold maxLen
              omega
            refine Ja hw fun fr M G w a K Qw hK hdok hs hsi hk => ?_
            have hxr := hs.eval x
            rw [hx] at hxr
            generalize hxv : a.eval x = xv at hxr
            obtain ⟨hrd, hfl⟩ : O2 M (.sl []) xv ∧ M1t xv := by cases hxr; exact ⟨by assumption, by assumption⟩
            obtain ⟨cap, vs, r1, r2, r3, r4⟩ := K22 (G := G) (ty := o.type) hC.tok hs.good hit hu hie hrd hfl (Wh hnews (hs.eval y)) hne h1 hlen.1 hlen.2
            have hext : Ext J6 M w M w.drew := ⟨fun _ _ e => e, Nat.le_refl _, rfl, rfl, rfl, fun _ _ _ => rfl, fun _ _ e => .inl e⟩
            have q1 : St F.C F.N M G w.drew env H a := ⟨fun a v e => hs.good a v e, hs.gl.ext hs.hrel hext (fun _ h => h.elim), hs.hrel.ext hext (fun _ _ h => h), hs.env, hs.size, hs.defers⟩
            have k1 := q1.newRowL (dst := none) (by simp) r4 (elem := e')
            have k2 := M3.newRow (hsi.quiet hext) (cs := news'.flatten.map .d) (vs := vs) (elem := e')
            have k3 := k1.quiet (Q4 hdok) (x := .rsl H.length 0 news'.length news'.length) (v := .slice (some ⟨w.heap.size, 0, none⟩) news'.length cap) (.rsl X2 r2 r3) k1.good (Ext.refl _ _ _)
            unfold Oper.wp
            rw [Wt ho ha ht (by rw [hxv]; exact r1)]
            rw [← S3 hd] at k
            exact hk _ _ _ _ _ _ _ k k3 (k2.quiet (Ext.refl _ _ _))
          · cases h5
        · cases h5
      · cases h5
    · cases h
  · cases h
section
variable {α : Type} {f : α → Row} {g : List α → List Row}
theorem flat_get (hg : ∀ l, g l = l.map f) {sz : Nat} (hn : ∀ x, (f x).length = sz) {l : List α} {i j : Nat} {x : α} {d : D} (h : l[i]? = some x) (hj : (f x)[j]? = some d) : ((g l).flatten.map A.d)[i * sz + j]? = some (.d d) := by
  rw [List.getElem?_map, N1g (rows := g l) (fun r hr => by rw [hg] at hr; obtain ⟨y, _, rfl⟩ := List.mem_map.1 hr; exact hn y) (r := f x) (by rw [hg, List.getElem?_map, h]; rfl) hj]
  rfl
theorem flat_lt (hg : ∀ l, g l = l.map f) {sz : Nat} (hn : ∀ x, (f x).length = sz) {l : List α} {i j : Nat} {x : α} (h : l[i]? = some x) (hj : j < sz) : i * sz + j < ((g l).flatten.map A.d).length := by
  have hlt : j < (f x).length := by rw [hn]; exact hj
  exact (List.getElem?_eq_some_iff.1 (flat_get hg hn h (List.getElem?_eq_getElem hlt))).1
theorem flat_set (hg : ∀ l, g l = l.map f) {sz : Nat} (hn : ∀ x, (f x).length = sz) {l : List α} {i j : Nat} {x y : α} {d : D} (h : l[i]? = some x) (hj : j < sz) (hy : f y = (f x).set j d) : (g (l.set i y)).flatten.map A.d = Mg ((g l).flatten.map A.d) (i * sz + j) [.d d] := by
  have hs : ∀ {m : List α}, ∀ r ∈ g m, r.length = sz := fun r hr => by rw [hg] at hr; obtain ⟨y, _, rfl⟩ := List.mem_map.1 hr; exact hn y
  have hil := (List.getElem?_eq_some_iff.1 h).1
  have hlt := flat_lt hg hn h hj
  apply List.ext_getElem?
  intro k
  rw [Aw _ _ _ _ (by simp only [List.length_singleton]; omega)]
  have len1 : ((g (l.set i y)).flatten.map A.d).length = l.length * sz := by rw [List.length_map, L17 hs, hg, List.length_map, List.length_set]
  have len2 : ((g l).flatten.map A.d).length = l.length * sz := by rw [List.length_map, L17 hs, hg, List.length_map]
  by_cases hk : k < l.length * sz
  · have hpos : 0 < sz := by omega
    have hq : k / sz < l.length := by rw [Nat.div_lt_iff_lt_mul hpos]; exact hk
    have hm : k % sz < sz := Nat.mod_lt _ hpos
    have hk' : k = k / sz * sz + k % sz := by rw [Nat.mul_comm]; exact (Nat.div_add_mod k sz).symm
    generalize hqq : k / sz = q at *
    generalize hrr : k % sz = r at *
    obtain ⟨z, hz⟩ : ∃ z, l[q]? = some z := ⟨_, List.getElem?_eq_getElem hq⟩
    obtain ⟨dz, hdz⟩ : ∃ dz, (f z)[r]? = some dz := ⟨_, List.getElem?_eq_getElem (by rw [hn]; exact hm)⟩
    by_cases hqi : q = i
    · subst hqi
      rw [h] at hz; cases hz
      obtain ⟨dy, hdy⟩ : ∃ dy, (f y)[r]? = some dy := ⟨_, List.getElem?_eq_getElem (by rw [hn]; exact hm)⟩
      rw [hk', flat_get hg hn (l := l.set q y) (by rw [List.getElem?_set_self hil]) hdy]
      rw [hy, List.getElem?_set] at hdy
      by_cases hrj : j = r
      · subst hrj
        rw [if_pos rfl, if_pos (by rw [hn]; exact hm)] at hdy
        cases hdy
        rw [if_pos (by simp)]
        simp
      · rw [if_neg hrj] at hdy
        rw [if_neg (by simp; omega), flat_get hg hn h hdy]
    · rw [hk', flat_get hg hn (l := l.set i y) (by rw [List.getElem?_set_ne (Ne.symm hqi)]; exact hz) hdz]
      rw [if_neg, flat_get hg hn hz hdz]
      simp only [List.length_singleton]
      intro hc
      have : q * sz + r = i * sz + j := by omega
      rcases Nat.lt_trichotomy q i with hlt' | he | hgt
      · have : (q + 1) * sz ≤ i * sz := Nat.mul_le_mul_right _ hlt'
        rw [Nat.add_mul] at this; omega
      · exact hqi he
      · have : (i + 1) * sz ≤ q * sz := Nat.mul_le_mul_right _ hgt
        rw [Nat.add_mul] at this; omega
  · rw [List.getElem?_eq_none (by omega), if_neg (by simp; omega), List.getElem?_eq_none (by omega)]
end
inductive Vw (p n : Nat) (y : D) : A → A → Prop
  | rfl {x} : Vw p n y x x
  | rsl {cap} : Vw p n y (.d y) (.rsl p 0 n cap)
  | agg {xs ys} (hl : xs.length = ys.length) (h : ∀ (i : Nat) x z, xs[i]? = some x → ys[i]? = some z → Vw p n y x z) : Vw p n y (.agg xs) (.agg ys)
def VwL (p n : Nat) (y : D) : List A → List A → Prop
  | [], [] => True
  | x :: xs, z :: zs => Vw p n y x z ∧ VwL p n y xs zs
  | _, _ => False
theorem VwL.spec {p n : Nat} {y : D} : ∀ {xs ys : List A}, VwL p n y xs ys → xs.length = ys.length ∧ ∀ (i : Nat) x z, xs[i]? = some x → ys[i]? = some z → Vw p n y x z
  | [], [], _ => ⟨rfl, fun i x z h => by simp at h⟩
  | x :: xs, z :: zs, h => by
    obtain ⟨h1, h2⟩ := VwL.spec h.2
    refine ⟨by simp [h1], fun i a b ha hb => ?_⟩
    cases i with
    | zero => simp at ha hb; subst ha; subst hb; exact h.1
    | succ i => exact h2 i a b (by simpa using ha) (by simpa using hb)
  | [], _ :: _, h => h.elim
  | _ :: _, [], h => h.elim
theorem Vw.aggL {p n : Nat} {y : D} {xs ys : List A} (h : VwL p n y xs ys) : Vw p n y (.agg xs) (.agg ys) := .agg h.spec.1 h.spec.2
theorem Vw.rel {M M1 : Mem} {G : Nat → Value} {p n : Nat} {y : D} (hm : ∀ a v, M a = some v → M1 a = some v) (hy : ∀ cap v, B1 M G (.rsl p 0 n cap) v → O2 M1 y v) {x z : A} (h : Vw p n y x z) : ∀ {v : Value}, B1 M G z v → B1 M1 G x v := by
  induction h with
  | rfl => exact fun h => h.mono' hm
  | rsl => exact fun h => .d (hy _ _ h)
  | agg hl _ ih =>
    intro v hz
    cases hz with
    | agg hl' h1 h =>
      refine .agg (by omega) h1 fun i x v hx hv => ?_
      obtain ⟨z, hz⟩ : ∃ z, _ = some z := ⟨_, List.getElem?_eq_getElem (by rw [← hl]; exact (List.getElem?_eq_some_iff.1 hx).1)⟩
      exact ih i x z hx hz (h i z v hz hv)
def O1u : D → Bool
  | .int _ _ => true
  | .bool _ => true
  | .str _ => true
  | _ => false
def F20 : List A → Bool
  | [] => true
  | .d y :: r => O1u y && F20 r
  | _ :: _ => false
def P1u : A → Bool
  | .d y => O1u y
  | .tup xs => F20 xs
  | _ => false
theorem S1y {M M' : Mem} {x : D} {v : Value} (h : O1u x = true) (hr : O2 M x v) : O2 M' x v := by
  cases hr <;> first | (simp [O1u] at h; done) | skip
  · exact .bool
  · exact .int (by assumption)
  · exact .str (by assumption)
theorem T1y : ∀ {xs : List A}, F20 xs = true → ∀ x ∈ xs, ∃ y, x = .d y ∧ O1u y = true
  | .d y :: r, h, x, hx => by
    simp only [F20, Bool.and_eq_true] at h
    cases hx with
    | head => exact ⟨y, rfl, h.1⟩
    | tail _ hx => exact T1y h.2 x hx
theorem D2c {M M' : Mem} {G : Nat → Value} {x : A} {v : Value} (h : P1u x = true) (hr : B1 M G x v) : B1 M' G x v := by
  cases hr with
  | d h' => exact .d (S1y h h')
  | tup hl hh =>
    refine .tup hl fun i x v hx hv => ?_
    obtain ⟨y, rfl, hy⟩ := T1y h x (List.mem_of_getElem? hx)
    have := hh i _ v hx hv
    cases this with
    | d h' => exact .d (S1y hy h')
  | _ => simp [P1u] at h
theorem D1r {C : Cx} {o : Oper} {env : Env} {H : T0} {f : FuncId} {xs ys : List A} {x : A} {p n sz : Nat} {rows : List Row} {cs : List A} {e : TypeId} (ha : Yl C.GL env o = some (f, xs)) (hp : nth H p = some (.row cs e)) (hcs : cs = rows.flatten.map .d)
    (hsz : ∀ r ∈ rows, r.length = sz) (hn : rows.length = n) (hv : VwL p n (.sl rows) ys xs) (hnm : B3 0 ys = true) (hc : S0 C f ys [] (fun r H' => H' = [] ∧ r = x)) (hx : P1u x = true) : N7 C o env H x := by
  intro M G w a next Qw hρ hG hgl hH hk
  subst hcs; subst hn
  rw [F3] at hp
  obtain ⟨vs0, h1, h2, h3⟩ := H17 ha hρ hc.1
  obtain ⟨b, vs, g1, g2, g3, g4, g5, g6⟩ := hH.obj p _ hp
  let M1 : Mem := fun ad => if ad.block = b ∧ ad.spot = none then vs[ad.off]? else M ad
  have hm : ∀ ad v, M ad = some v → M1 ad = some v := fun ad v e => by
    show (if ad.block = b ∧ ad.spot = none then vs[ad.off]? else M ad) = some v
    rw [if_neg]
    · exact e
    · rintro ⟨q1, q2⟩
      obtain ⟨bb, oo, ss⟩ := ad
      simp only at q1
      subst q1
      rw [g6] at e; cases e
  have hg1 : H8 M1 w := fun ad v e => by
    by_cases hh : ad.block = b ∧ ad.spot = none
    · obtain ⟨bb, oo, ss⟩ := ad
      simp only at hh
      obtain ⟨rfl, rfl⟩ := hh
      have e4 : vs[oo]? = some v := by
        have : (if bb = bb ∧ (none : Option Nat) = none then vs[oo]? else M ⟨bb, oo, none⟩) = some v := e
        rwa [if_pos ⟨rfl, rfl⟩] at this
      exact .inl ⟨rfl, by rw [Yv g2]; exact e4⟩
    · have e4 : M ad = some v := by
        have : (if ad.block = b ∧ ad.spot = none then vs[ad.off]? else M ad) = some v := e
        rwa [if_neg hh] at this
      exact hG ad v e4
  have hgl1 : M1c C M1 w := by
    have hext : Ext (fun c => c = b) M w M1 w := ⟨hm, Nat.le_refl _, rfl, rfl, rfl, fun _ _ _ => rfl, fun ad v e1 => by
      have e1 : (if ad.block = b ∧ ad.spot = none then vs[ad.off]? else M ad) = some v := e1
      split at e1
      · rename_i hc'; exact .inr (.inl hc'.1)
      · exact .inl e1⟩
    exact hgl.ext hH hext fun c hc' => by subst hc'; exact ⟨p, _, hp, by rw [g1]; rfl⟩
  have hy : ∀ cap v, B1 M G (.rsl p 0 rows.length cap) v → O2 M1 (.sl rows) v := fun cap v hr => by
    obtain ⟨b', cap', q1, q2, q3, rfl⟩ : ∃ b' cap', G p = .pointer (some ⟨b', 0, none⟩) ∧ rows.length ≤ cap' ∧ cap' ≤ maxLen ∧ v = .slice (some ⟨b', 0, none⟩) rows.length cap' := by
      cases hr
      exact ⟨_, _, by assumption, by assumption, by assumption, rfl⟩
    rw [g1] at q1
    simp at q1
    subst q1
    have hget : ∀ (i j : Nat) r x, rows[i]? = some r → r[j]? = some x → ∃ u, vs[i * sz + j]? = some u ∧ O2 M1 x u := fun i j r x hi hj => by
      have hf := N1g hsz hi hj
      have hc' : (rows.flatten.map A.d)[i * sz + j]? = some (.d x) := by rw [List.getElem?_map, hf]; rfl
      have hlt : i * sz + j < vs.size := Nat.lt_of_lt_of_le (List.getElem?_eq_some_iff.1 hc').1 g3
      refine ⟨vs[i * sz + j], Array.getElem?_eq_getElem hlt, ?_⟩
      have := g5 _ _ _ hc' (Array.getElem?_eq_getElem hlt)
      cases this with
      | d h' => exact h'.mono hm
    refine .sl sz (fun i j => vs[i * sz + j]?.getD undef) rfl q2 q3 (.inr rfl) (fun i r hi => hsz r (List.mem_of_getElem? hi)) (fun i j r x hi hj => ?_) (fun i j r x hi hj => ?_)
    · obtain ⟨u, hu, _⟩ := hget i j r x hi hj
      rw [Rk]
      show (if b = b ∧ (none : Option Nat) = none then vs[0 + (i * sz + j)]? else _) = _
      rw [if_pos ⟨rfl, rfl⟩, Nat.zero_add, hu]
      rfl
    · obtain ⟨u, hu, hr'⟩ := hget i j r x hi hj
      rw [hu]
      exact hr'
  obtain ⟨l1, l2⟩ := hv.spec
  unfold Oper.wp
  rw [h1 w]
  refine (P1j (G := G) hnm hc hg1 hgl1 (l1.trans h2) fun i y v hyi hvi => ?_).mono fun e' w' he => ?_
  · obtain ⟨z, hz⟩ : ∃ z, xs[i]? = some z := ⟨_, List.getElem?_eq_getElem (by rw [← l1]; exact (List.getElem?_eq_some_iff.1 hyi).1)⟩
    exact (l2 i y z hyi hz).rel hm hy (h3 i z v hz hvi)
  · obtain ⟨v, r, M', rfl, rfl, k1, k2, k3⟩ := he
    obtain ⟨e1, e2, e3, e4, e5, e6, e7⟩ := k3
    let M2 : Mem := fun ad => if ad.block = b then none else M' ad
    refine hk v M2 w' (D2c hx (k1 G)) (fun ad u hu => ?_) ⟨fun ad u hu => ?_, e2, e3, e4, e5, e6, fun ad u hu => ?_⟩
    · have hu : (if ad.block = b then none else M' ad) = some u := hu
      split at hu
      · cases hu
      · exact k2 ad u hu
    · show (if ad.block = b then none else M' ad) = some u
      rw [if_neg]
      · exact e1 ad u (hm ad u hu)
      · intro hb
        obtain ⟨bb, oo, ss⟩ := ad
        simp only at hb
        subst hb
        rw [g6] at hu; cases hu
    · have hu : (if ad.block = b then none else M' ad) = some u := hu
      split at hu
      · cases hu
      · rename_i hb
        rcases e7 ad u hu with h | h | h
        · refine .inl ?_
          have h : (if ad.block = b ∧ ad.spot = none then vs[ad.off]? else M ad) = some u := h
          rwa [if_neg (fun hh => hb hh.1)] at h
        · exact .inr (.inl h)
        · exact .inr (.inr h)
theorem I0.cv {F : Fx} {L l : List Oper} {o : Oper} {env : Env} {H : T0} {Q : Env → T0 → Prop} {d : Option Nat} {f : FuncId} {xs ys : List A} {x : A} (p : Nat) {n sz : Nat} {rows : List Row} {cs : List A} {e : TypeId} (h : Dk F.C L o env = some (d, f, xs)) (hp : nth H p = some (.row cs e))
    (hcs : cs = rows.flatten.map .d) (hsz : ∀ r ∈ rows, r.length = sz) (hn : rows.length = n) (hv : VwL p n (.sl rows) ys xs) (hc : S0 F.C f ys [] (Ret [] x)) (hnm : B3 0 ys = true) (hx : P1u x = true) (k : I0 F L l (put env d x) H Q) : I0 F L (o :: l) env H Q := by
  obtain ⟨h1, h2, rfl⟩ := Ek h
  exact .yields h1 (D1r h2 hp hcs hsz hn hv hnm hc hx) k
theorem AQ.cv {C : Cx} {L l : List Oper} {o : Oper} {env : Env} {H : T0} {Q : Env → Prop} {d : Option Nat} {f : FuncId} {xs ys : List A} {x : A} (p : Nat) {n sz : Nat} {rows : List Row} {cs : List A} {e : TypeId} (h : Dk C L o env = some (d, f, xs)) (hp : nth H p = some (.row cs e))
    (hcs : cs = rows.flatten.map .d) (hsz : ∀ r ∈ rows, r.length = sz) (hn : rows.length = n) (hv : VwL p n (.sl rows) ys xs) (hc : S0 C f ys [] (Ret [] x)) (hnm : B3 0 ys = true) (hx : P1u x = true) (k : AQ C L l (put env d x) H Q) : AQ C L (o :: l) env H Q := by
  obtain ⟨h1, h2, rfl⟩ := Ek h
  exact ⟨_, x, rfl, .inl ⟨h1, D1r h2 hp hcs hsz hn hv hnm hc hx⟩, k⟩
theorem AQ.ld {C : Cx} (hC : B2 C) {L l : List Oper} {o : Oper} {env : Env} {H : T0} {Q : Env → Prop} {d : Option Nat} {cells : List A} {off : Nat} {y : A} (h : H1u C L o env H = some (d, cells, off)) (hy : cells[off]? = some y)
    (k : AQ C L l (put env d y) H Q) : AQ C L (o :: l) env H Q := by
  unfold H1u at h
  split at h
  · rename_i t x d' hw ho hd
    split at h
    · rename_i i p off' ht hx
      cases hag : i.u.agg with
      | true => rw [hag] at h; cases h
      | false =>
        rw [hag] at h
        simp only [cond_false] at h
        split at h
        · rename_i cs e hn
          simp only [Option.some.injEq, Prod.mk.injEq] at h
          obtain ⟨rfl, rfl, rfl⟩ := h
          have this : Kh i (ev C.GL env x) H = some y := by
            rw [hx]
            simp only [Kh, hn, Px, hag, cond_false, F3, List.getElem?_drop, Nat.add_zero]
            exact hy
          exact ⟨_, y, S3 hd, .inl ⟨hw, Bw hC (c := True) (by simp [opA, ho, ht, this]) trivial⟩, k⟩
        · cases h
    · cases h
  · cases h
end Go.Am

