/-
  The abstract machine: objects that are made and that turn, maps from strings to data.
-/
import Derived.Test.YtmilgoloagbmpaaGreatDoorAmM
import GoSem.Instr.Lookup
import GoSem.Instr.MapUpdate
import GoSem.Instr.MakeMap
namespace Go.Am

/-- the state with a new object -/
theorem St.newOb {C : Cx} {N : Nat} {M M' : Mem} {G : Nat → Value} {w w' : World} {env : Env} {H : Heap} {a : Act} (h : St C N M G w env H a) {dst : Option Nat} (hd : ∀ d, dst = some d → d < N) {ob : Ob} {v' v : Value} {x : A}
    (hext : Ext none' M w M' w') (hg : Good M' w') (hob : ∀ G, ObRel M' G w' ob v') (hblk : ∀ b, blk ob v' = some b → w.heap.size ≤ b)
    (hx : RelA M' (updG G H.length v') x v) :
    St C N M' (updG G H.length v') w' (put env dst x) (H ++ [ob]) (a.put dst v) := by
  have hh := h.hrel.ext hext (fun _ _ q => q)
  have hmono : ∀ {x : A} {v : Value}, RelA M' G x v → RelA M' (updG G H.length v') x v := fun hr => hr.mono (fun _ _ e => e) fun o hn => updG_ne (Nat.ne_of_lt (hh.lt hr hn))
  obtain ⟨h1, h2, h3⟩ := put_env (fun t => hmono ((h.env t).mono' hext.mono)) h.size hd hx
  refine ⟨hg, h.gl.ext h.hrel hext (fun _ h => h.elim), ⟨fun o x ho => ?_, fun o o' x x' b ho ho' hb hb' => ?_, fun o ho => ?_⟩, h1, h2, h3.trans h.defers⟩
  · rcases Nat.lt_trichotomy o H.length with hlt | rfl | hgt
    · rw [List.getElem?_append_left hlt] at ho
      rw [updG_ne (Nat.ne_of_lt hlt)]
      have hob := hh.obj o x ho
      cases x with
      | dead => trivial
      | row cells e =>
        obtain ⟨b, us, g1, g2, g3, g4, g5, g6⟩ := hob
        exact ⟨b, us, g1, g2, g3, g4, fun i y v a c => hmono (g5 i y v a c), g6⟩
      | bld o' e =>
        obtain ⟨b, v0, g1, g2, g3, g4, g5⟩ := hob
        have ho' : o' ≠ H.length := fun e => g4 (by rw [e]; exact hh.fresh _ (Nat.le_refl _))
        exact ⟨b, v0, g1, by rw [updG_ne ho']; exact g2, g3, by rw [updG_ne ho']; exact g4, g5⟩
      | buf e sz => exact hob
      | tok e sz => exact hob
      | map es =>
        obtain ⟨b, ms, cl, g1, g2, g3, g4, g5⟩ := hob
        exact ⟨b, ms, cl, g1, g2, g3, fun i k cs e a c => ⟨(g4 i k cs e a c).1, hmono (g4 i k cs e a c).2⟩, g5⟩
    · simp at ho
      subst ho
      rw [updG_same]
      exact hob _
    · rw [List.getElem?_eq_none (by simp; omega)] at ho
      cases ho
  · have key : ∀ (o : Nat) x b, (H ++ [ob])[o]? = some x → blk x (updG G H.length v' o) = some b → (o < H.length ∧ H[o]? = some x ∧ blk x (G o) = some b ∧ b < w.heap.size) ∨ (o = H.length ∧ w.heap.size ≤ b) := by
      intro o x b ho hb
      rcases Nat.lt_trichotomy o H.length with hlt | rfl | hgt
      · rw [List.getElem?_append_left hlt] at ho
        rw [updG_ne (Nat.ne_of_lt hlt)] at hb
        exact .inl ⟨hlt, ho, hb, blk_lt (h.hrel.obj o x ho) hb⟩
      · simp at ho
        subst ho
        rw [updG_same] at hb
        exact .inr ⟨rfl, hblk b hb⟩
      · rw [List.getElem?_eq_none (by simp; omega)] at ho
        cases ho
    rcases key o x b ho hb with ⟨q1, q2, q3, q4⟩ | ⟨q1, q2⟩ <;> rcases key o' x' b ho' hb' with ⟨p1, p2, p3, p4⟩ | ⟨p1, p2⟩
    · exact h.hrel.apart o o' x x' b q2 p2 q3 p3
    · omega
    · omega
    · omega
  · simp at ho
    rw [updG_ne (by omega)]
    exact h.hrel.fresh o (by omega)

theorem Since.newOb {fr : Fr} {M M' : Mem} {G : Nat → Value} {w w' : World} {H : Heap} (h : Since fr M G w H) {ob : Ob} {v' : Value} (hext : Ext none' M w M' w') (hblk : ∀ b, blk ob v' = some b → w.heap.size ≤ b) :
    Since fr M' (updG G H.length v') w' (H ++ [ob]) := by
  refine ⟨h.ext.trans hext (fun _ h => h.elim), fun b hb => ?_, by simp; have := h.len; omega, fun o x ho ht => ?_, fun o x y ho ht hy => ?_⟩
  · obtain ⟨o, x, ho, hx⟩ := hb
    rcases Nat.lt_trichotomy o H.length with hlt | rfl | hgt
    · rw [List.getElem?_append_left hlt] at ho
      rw [updG_ne (Nat.ne_of_lt hlt)] at hx
      exact h.own b ⟨o, x, ho, hx⟩
    · simp at ho
      subst ho
      rw [updG_same] at hx
      exact .inr (Nat.le_trans h.ext.size (hblk b hx))
    · rw [List.getElem?_eq_none (by simp; omega)] at ho
      cases ho
  · have hlt : o < H.length := Nat.lt_of_lt_of_le (List.getElem?_eq_some_iff.1 ho).1 h.len
    rw [updG_ne (Nat.ne_of_lt hlt)]
    exact h.keep o x ho ht
  · have hlt : o < H.length := Nat.lt_of_lt_of_le (List.getElem?_eq_some_iff.1 ho).1 h.len
    rw [List.getElem?_append_left hlt] at hy
    exact h.kind o x y ho ht hy

/-- the state where an object has turned, its place the same -/
theorem St.setOb {C : Cx} {N : Nat} {M : Mem} {G : Nat → Value} {w w' : World} {env : Env} {H : Heap} {a : Act} (h : St C N M G w env H a) {dst : Option Nat} (hd : ∀ d, dst = some d → d < N) {p b : Nat} {x x' : Ob}
    (hp : H[p]? = some x) (hb : blk x (G p) = some b) (hb' : blk x' (G p) = some b) (hext : Ext (fun c => c = b) M w M w') (hM : ∀ off sp, M ⟨b, off, sp⟩ = none) (hob : ObRel M G w' x' (G p)) {y : A} {v : Value} (hy : RelA M G y v) :
    St C N M G w' (put env dst y) (hset H p x') (a.put dst v) := by
  have hlt : p < H.length := (List.getElem?_eq_some_iff.1 hp).1
  obtain ⟨h1, h2, h3⟩ := put_env h.env h.size hd hy
  refine ⟨h.good.ext hext (fun ad u e hk => ?_), h.gl.ext h.hrel hext (fun c hc => by subst hc; exact ⟨p, _, hp, hb⟩), ⟨fun i z hi => ?_, fun i i' z z' c hi hi' hx hx' => ?_, fun i hi => h.hrel.fresh i (by rw [hset_len] at hi; exact hi)⟩, h1, h2, h3.trans h.defers⟩
  · obtain ⟨bb, oo, ss⟩ := ad
    have hk' : bb = b := hk
    subst hk'
    rw [hM] at e
    cases e
  · rw [hset_get H p _ i hlt] at hi
    split at hi
    · rename_i e
      subst e
      simp only [Option.some.injEq] at hi
      subst hi
      exact hob
    · rename_i hne
      have hoz := h.hrel.obj i z hi
      exact hoz.keep (fun _ _ e => e) (fun c hcb => hext.block c (blk_lt hoz hcb) fun e => hne (h.hrel.apart i p z _ b hi hp (e ▸ hcb) hb)) (fun _ _ _ _ e => e)
  · have key : ∀ (n : Nat) z d, (hset H p x')[n]? = some z → blk z (G n) = some d → ∃ y, H[n]? = some y ∧ blk y (G n) = some d := by
      intro n z d hn hz
      rw [hset_get H p _ n hlt] at hn
      by_cases e : n = p
      · rw [if_pos e] at hn
        subst e
        obtain rfl := Option.some.inj hn
        exact ⟨_, hp, by rw [hb, ← hb', hz]⟩
      · rw [if_neg e] at hn
        exact ⟨z, hn, hz⟩
    obtain ⟨y, hy, hby⟩ := key i z c hi hx
    obtain ⟨y', hy', hby'⟩ := key i' z' c hi' hx'
    exact h.hrel.apart i i' y y' c hy hy' hby hby'

theorem Since.setOb {fr : Fr} {M : Mem} {G : Nat → Value} {w w' : World} {H : Heap} (h : Since fr M G w H) {p b : Nat} {x x' : Ob}
    (hp : H[p]? = some x) (hb : blk x (G p) = some b) (hb' : blk x' (G p) = some b) (ht' : isTok x' = false) (hext : Ext (fun c => c = b) M w M w') : Since fr M G w' (hset H p x') := by
  have hlt : p < H.length := (List.getElem?_eq_some_iff.1 hp).1
  have hown : Go.Am.own G H b := ⟨p, _, hp, hb⟩
  refine ⟨h.ext.trans hext (fun x hx => by subst hx; exact h.own _ hown), fun c hc => ?_, by rw [hset_len]; exact h.len, h.keep, fun i z y hi ht hy => ?_⟩
  · obtain ⟨i, z, hi, hx⟩ := hc
    rw [hset_get H p _ i hlt] at hi
    by_cases e : i = p
    · rw [if_pos e] at hi
      subst e
      obtain rfl := Option.some.inj hi
      rw [hb'] at hx
      obtain rfl := Option.some.inj hx
      exact h.own _ hown
    · rw [if_neg e] at hi
      exact h.own c ⟨i, z, hi, hx⟩
  · rw [hset_get H p _ i hlt] at hy
    by_cases e : i = p
    · rw [if_pos e] at hy
      obtain rfl := Option.some.inj hy
      exact ht'
    · rw [if_neg e] at hy
      exact h.kind i z y hi ht hy

/-! ### maps -/

def mget (k : List UInt8) : List (List UInt8 × Row) → Option Row
  | [] => none
  | (k', cs) :: r => bif k == k' then some cs else mget k r

def mput (k : List UInt8) (cs : Row) : List (List UInt8 × Row) → List (List UInt8 × Row)
  | [] => [(k, cs)]
  | (k', cs') :: r => bif k == k' then (k, cs) :: r else (k', cs') :: mput k cs r

theorem mk_eq {a b : List UInt8} : ((⟨a.toArray⟩ : ByteArray) == ⟨b.toArray⟩) = (a == b) := by
  show (a.toArray == b.toArray) = (a == b)
  simp

theorem findNow_ok {k : List UInt8} : ∀ {es : List (List UInt8 × Row)} {ms : List MapEntry} {i : Nat}, ms.length = es.length → (∀ (n : Nat) k' cs e, es[n]? = some (k', cs) → ms[n]? = some e → e.key = .string ⟨k'.toArray⟩) →
    (mget k es = none ∧ Instr.findNow .string (.string ⟨k.toArray⟩) ms i = some none ∧ ∀ cs, mput k cs es = es ++ [(k, cs)]) ∨
    ∃ n cs e, es[n]? = some (k, cs) ∧ mget k es = some cs ∧ ms[n]? = some e ∧ Instr.findNow .string (.string ⟨k.toArray⟩) ms i = some (some (i + n, e.val)) ∧ ∀ cs', mput k cs' es = es.set n (k, cs')
  | [], [], i, _, _ => .inl ⟨rfl, rfl, fun _ => rfl⟩
  | (k', cs) :: es, m :: ms, i, hl, hk => by
    have hm := hk 0 k' cs m rfl rfl
    simp only [Instr.findNow, hm, Instr.sameNow, mget, mput, mk_eq]
    cases hb : k == k' with
    | true =>
      obtain rfl := beq_iff_eq.1 hb
      exact .inr ⟨0, cs, m, rfl, rfl, rfl, rfl, fun _ => rfl⟩
    | false =>
      simp only [cond_false]
      rcases findNow_ok (k := k) (es := es) (ms := ms) (i := i + 1) (by simpa using hl) (fun n k' cs e a b => hk (n + 1) k' cs e (by simpa using a) (by simpa using b)) with ⟨h1, h2, h3⟩ | ⟨n, cs', e, h1, h2, h3, h4, h5⟩
      · exact .inl ⟨h1, h2, fun cs' => by rw [h3]; rfl⟩
      · exact .inr ⟨n + 1, cs', e, by simpa using h1, h2, by simpa using h3, by rw [h4]; congr 3; omega, fun c => by rw [h5]; rfl⟩
  | [], _ :: _, _, hl, _ => by simp at hl
  | _ :: _, [], _, hl, _ => by simp at hl

def zeroA (i : TI) : A := bif i.u.agg then .agg (i.zero.map .d) else (match nth i.zero 0 with | some x => .d x | none => .junk)

/-- a lookup: the map, the key, whether it says so, the zero -/
structure Lk where
  d : Option Nat
  es : List (List UInt8 × Row)
  k : List UInt8
  ok : Bool
  z : A

def stepM (C : Cx) (L : List Oper) (o : Oper) (env : Env) (H : Heap) : Option Lk :=
  match wantedA L env o, o.op, dstF o with
  | some true, .lookup t x y ok, some d => match tget C.T t, ev C.GL env x, ev C.GL env y with
    | some i, .mp p, .d (.str k) => match i.u, nth H p with
      | .map kt et, some (.map es) => match tget C.T kt, tget C.T et with
        | some ki, some ei => match ki.u, frc (zeroA ei) with
          | .str, some z => some ⟨d, es, k, ok, z⟩
          | _, _ => none
        | _, _ => none
      | _, _ => none
    | _, _, _ => none
  | _, _, _ => none

def lkA (r : Option Row) (z : A) (ok : Bool) : A :=
  match r, ok with
  | some cs, true => .tup [rowA cs, .d (.bool true)]
  | none, true => .tup [z, .d (.bool false)]
  | some cs, false => rowA cs
  | none, false => z

theorem run_check_str {P : Program} {w : World} {kt : Nat} (h : P.underlying kt = some .string) (b : Bool) (s : ByteArray) : (Instr.checkKey b 10000 kt (.string s)).run P w = .ok () w := by
  have key : ∀ n, (Instr.checkKey b (n + 1) kt (.string s)).run P w = .ok () w := fun n => by simp [Instr.checkKey, run_underlying h]
  exact key 9999

theorem run_getMap {P : Program} {w : World} {b : Nat} {ms : Array MapEntry} {cl : Nat} (h : w.heap[b]? = some (.map ms cl)) : (getObj b).run P w = .ok (.map ms cl) w := by
  simp [getObj, Sem.run, h]

theorem zeroA_rel {P : Program} {T : TT} (hT : TOk P T) {t : Nat} {i : TI} (ht : tget T t = some i) (M : Mem) (G : Nat → Value) : ∃ z, (∀ w, (zeroValue t).run P w = .ok z w) ∧ RelA M G (zeroA i) z := by
  obtain ⟨z, h1, h2, h3⟩ := cells_zero (M := M) (G := G) hT ht
  refine ⟨z, h1, ?_⟩
  unfold zeroA
  cases hg : i.u.agg with
  | true =>
    rw [hg] at h3
    simp only [if_true] at h3
    obtain ⟨cs, rfl⟩ := h3
    exact .agg (by simpa [Value.cells] using h2.1) (fun n v hv => h2.2.1 n v hv) fun n x v hx hv => h2.2.2 n x v hx hv
  | false =>
    rw [hg] at h3
    simp only [Bool.false_eq_true, if_false] at h3
    simp only [cond_false, nth_eq]
    split
    · rename_i x hx
      exact h2.2.2 0 _ z (by rw [List.getElem?_map, hx]; rfl) (by rw [h3]; rfl)
    · exact .junk

theorem stepM_spec {C : Cx} {L : List Oper} {o : Oper} {env : Env} {H : Heap} {r : Lk} (h : stepM C L o env H = some r) : wantedA L env o = some true ∧ dstF o = some r.d := by
  unfold stepM at h
  split at h
  · rename_i t x y ok d hw ho hd
    split at h
    · split at h
      · split at h
        · split at h
          · simp only [Option.some.injEq] at h
            subst h
            exact ⟨hw, hd⟩
          · cases h
        · cases h
      · cases h
    · cases h
  · cases h

theorem yields_lookup {C : Cx} (hC : CxOk C) {L : List Oper} {o : Oper} {env : Env} {H : Heap} {d : Option Nat} {es : List (List UInt8 × Row)} {k : List UInt8} {ok : Bool} {z : A} (h : stepM C L o env H = some ⟨d, es, k, ok, z⟩) {r : Option Row} (hr : mget k es = r) : Yields C o env H (lkA r z ok) := by
  intro M G w a next Qw hρ hG hgl hH hkk
  subst hr
  unfold stepM at h
  split at h
  · rename_i t x y ok' d' hw ho hd
    rw [ho] at hρ
    split at h
    · rename_i i p k' ht hx hy
      split at h
      · rename_i kt et es' hu hp
        split at h
        · rename_i ki ei hki hei
          split at h
          · rename_i z' hku hz
            simp only [Option.some.injEq, Lk.mk.injEq] at h
            obtain ⟨rfl, rfl, rfl, rfl, rfl⟩ := h
            have hz' := frc_eq hz
            subst hz'
            have hxr := hρ x (by simp [Op.operands])
            have hyr := hρ y (by simp [Op.operands])
            rw [hx] at hxr
            rw [hy] at hyr
            generalize hxv : a.eval x = xv at hxr
            generalize hyv : a.eval y = yv at hyr
            cases hxr; rename_i b hgb
            cases hyr; rename_i hyr; cases hyr
            rename_i hkl
            rw [nth_eq] at hp
            obtain ⟨b', ms, cl, g1, g2, g3, g4, g5⟩ := hH.obj p _ hp
            rw [hgb] at g1
            simp at g1
            subst g1
            have hd := under_map (hC.tok.facts ht) hu
            have hkd := under_str (hC.tok.facts hki) hku
            obtain ⟨zv, hzr, hzrel⟩ := zeroA_rel hC.tok hei M G
            have hkeys : ∀ (n : Nat) k' cs e, es'[n]? = some (k', cs) → ms.toList[n]? = some e → e.key = .string ⟨k'.toArray⟩ := fun n k' cs e a b => by
              have := (g4 n k' cs e a (by simpa using b)).1
              generalize e.key = ek at this
              cases this; rfl
            have key : ∃ v, (Instr.lookup t (.map (some b)) (.string ⟨k'.toArray⟩) ok').run C.P w = .ok v w ∧ RelA M G (lkA (mget k' es') (zeroA ei) ok') v := by
              rcases findNow_ok (k := k') (i := 0) (by simpa using g3) hkeys with ⟨h1, h2, _⟩ | ⟨n, cs, e, h1, h2, h3, h4, _⟩
              · refine ⟨if ok' then .tuple #[zv, .bool false] else zv, ?_, ?_⟩
                · simp [Instr.lookup, run_underlying hd, run_getMap g2, run_check_str hkd, Instr.findKey, run_underlying hkd, h2, hzr w]
                · rw [h1]
                  cases ok' with
                  | false => simpa [lkA] using hzrel
                  | true =>
                    refine .tup rfl fun i x v hx hv => ?_
                    match i with
                    | 0 => simp at hx hv; subst hx; subst hv; exact hzrel
                    | 1 => simp at hx hv; subst hx; subst hv; exact .d .bool
                    | _ + 2 => simp at hx
              · have hev := (g4 n k' cs e h1 (by simpa using h3)).2
                refine ⟨if ok' then .tuple #[e.val, .bool true] else e.val, ?_, ?_⟩
                · simp [Instr.lookup, run_underlying hd, run_getMap g2, run_check_str hkd, Instr.findKey, run_underlying hkd, h4]
                · rw [h2]
                  cases ok' with
                  | false => simpa [lkA] using hev
                  | true =>
                    refine .tup rfl fun i x v hx hv => ?_
                    match i with
                    | 0 => simp at hx hv; subst hx; subst hv; exact hev
                    | 1 => simp at hx hv; subst hx; subst hv; exact .d .bool
                    | _ + 2 => simp at hx
            obtain ⟨v, hv, hrel⟩ := key
            unfold Oper.wp execOp
            simp only [ho, hxv, hyv, Sem.run_bind, hv, Result.andThen_ok, Sem.run_pure, Oper.upon_value]
            exact hkk _ M w hrel hG (Ext.refl _ _ _)
          · cases h
        · cases h
      · cases h
    · cases h
  · cases h

theorem AOps.m {F : Fx} (hC : CxOk F.C) {L l : List Oper} {o : Oper} {env : Env} {H : Heap} {Q : Env → Heap → Prop} {d : Option Nat} {es : List (List UInt8 × Row)} {k : List UInt8} {ok : Bool} {z : A} (h : stepM F.C L o env H = some ⟨d, es, k, ok, z⟩) {r : Option Row} (hr : mget k es = r)
    (kk : AOps F L l (put env d (lkA r z ok)) H Q) : AOps F L (o :: l) env H Q := by
  obtain ⟨h1, h2⟩ := stepM_spec h
  refine .yields h1 (yields_lookup hC h hr) ?_
  rw [dstF_eq h2]
  exact kk

/-- a new map -/
def stepW (L : List Oper) (o : Oper) (env : Env) (H : Heap) : Option (Option Nat × Nat × Heap) :=
  match wantedA L env o, o.op, dstF o with
  | some true, .makeMap _ none, some d => match pushH H (.map []) with | some (n, H') => some (d, n, H') | none => none
  | _, _, _ => none

theorem AOps.w {F : Fx} {L l : List Oper} {o : Oper} {env : Env} {H H' : Heap} {Q : Env → Heap → Prop} {d : Option Nat} {n : Nat} (h : stepW L o env H = some (d, n, H')) (k : AOps F L l (put env d (.mp n)) H' Q) : AOps F L (o :: l) env H Q := by
  unfold stepW at h
  split at h
  · rename_i t d' hw ho hd
    split at h
    · rename_i n' H2 hp
      simp only [Option.some.injEq, Prod.mk.injEq] at h
      obtain ⟨rfl, rfl, rfl⟩ := h
      obtain ⟨rfl, rfl⟩ := pushH_eq hp
      refine aops_step hw fun fr M G w a K Qw hK hdok hs hsi hk => ?_
      have hr : (execOp a.eval o).run F.C.P w = .ok (.value (.map (some w.heap.size))) (w.alloc (.map #[] 0)) := by
        unfold execOp
        simp only [ho, Instr.makeMap]
        rfl
      have hg : Good M (w.alloc (.map #[] 0)) := hs.good.alloc _
      unfold Oper.wp
      rw [hr]
      have hob : ∀ G, ObRel M G (w.alloc (.map #[] 0)) (.map []) (.map (some w.heap.size)) := fun G => ⟨w.heap.size, #[], 0, rfl, heap_alloc_new w _, rfl, fun i k cs e h => by simp at h, fun i e h => by simp at h⟩
      have hb : ∀ b, blk (.map []) (.map (some w.heap.size)) = some b → w.heap.size ≤ b := fun b hb => by simp [blk] at hb; omega
      refine hk (.mp H.length) env _ M (updG G H.length (.map (some w.heap.size))) _ _ ?_ (hs.newOb (dstOk_spec hdok) (ext_alloc none' M w _) hg hob hb (.mp updG_same)) (hsi.newOb (ext_alloc none' M w _) hb)
      rw [dstF_eq hd]
      exact k
    · cases h
  · cases h

/-- a value as a row of data -/
def valRow : A → Option Row
  | .agg cs => match toDs cs with
    | some [_] => none
    | some r => some r
    | none => none
  | x => match toD x with | some y => some [y] | none => none

theorem valRow_rel {M : Mem} {G : Nat → Value} {x : A} {r : Row} {v : Value} (h : valRow x = some r) (hx : RelA M G x v) : RelA M G (rowA r) v := by
  have single : ∀ y, toD x = some y → RelA M G (rowA [y]) v := fun y hy => .d (toD_rel hy hx)
  unfold valRow at h
  split at h
  · rename_i cs
    split at h
    · cases h
    · rename_i r' hne hr
      simp only [Option.some.injEq] at h
      subst h
      obtain ⟨l1, l2⟩ := toDs_get hr
      have e : rowA r' = .agg (r'.map .d) := by
        match r', hne with
        | [], _ => rfl
        | [x], hne => exact absurd rfl (hne x)
        | _ :: _ :: _, _ => rfl
      rw [e]
      cases hx with
      | agg hl h1 h =>
        refine .agg (by simp; omega) h1 fun i y u hy hu => ?_
        rw [List.getElem?_map] at hy
        cases hz : r'[i]? with
        | none => rw [hz] at hy; cases hy
        | some z =>
          rw [hz] at hy
          simp only [Option.map_some, Option.some.injEq] at hy
          subst hy
          obtain ⟨q, hq, hqz⟩ := l2 i z hz
          exact .d (toD_rel hqz (h i q u hq hu))
    · cases h
  · split at h
    · rename_i y hy
      simp only [Option.some.injEq] at h
      subst h
      exact single y hy
    · cases h

/-- a map takes a row: the heap behind -/
def stepU (C : Cx) (L : List Oper) (o : Oper) (env : Env) (H : Heap) : Option Heap :=
  match wantedA L env o, o.op, o.dst with
  | some true, .mapUpdate t x y z, none => match tget C.T t, ev C.GL env x, ev C.GL env y, valRow (ev C.GL env z) with
    | some i, .mp p, .d (.str k), some cs => match i.u, nth H p with
      | .map kt _, some (.map es) => match tget C.T kt with
        | some ki => match ki.u with
          | .str => hsetF H p (.map (mput k cs es))
          | _ => none
        | none => none
      | _, _ => none
    | _, _, _, _ => none
  | _, _, _ => none

theorem AOps.u {F : Fx} (hC : CxOk F.C) {L l : List Oper} {o : Oper} {env : Env} {H H' : Heap} {Q : Env → Heap → Prop} (h : stepU F.C L o env H = some H') (k : AOps F L l env H' Q) : AOps F L (o :: l) env H Q := by
  unfold stepU at h
  split at h
  · rename_i t x y z hw ho hdst
    split at h
    · rename_i i p kk cs ht hx hy hz
      split at h
      · rename_i kt et es hu hp
        split at h
        · rename_i ki hki
          split at h
          · rename_i hku
            have e1 := hsetF_eq h
            subst e1
            refine aops_step hw fun fr M G w a K Qw hK hdok hs hsi hk => ?_
            have hxr := hs.eval x
            have hyr := hs.eval y
            have hzr := valRow_rel hz (hs.eval z)
            rw [hx] at hxr
            rw [hy] at hyr
            generalize hxv : a.eval x = xv at hxr
            generalize hyv : a.eval y = yv at hyr
            generalize hzv : a.eval z = zv at hzr
            cases hxr; rename_i b hgb
            cases hyr; rename_i hyr; cases hyr
            rename_i hkl
            rw [nth_eq] at hp
            obtain ⟨b', ms, cl, g1, g2, g3, g4, g5⟩ := hs.hrel.obj p _ hp
            rw [hgb] at g1
            simp at g1
            subst g1
            have hd := under_map (hC.tok.facts ht) hu
            have hkd := under_str (hC.tok.facts hki) hku
            have hblt : b < w.heap.size := (Array.getElem?_eq_some_iff.1 g2).1
            have hkeys : ∀ (n : Nat) k' cs e, es[n]? = some (k', cs) → ms.toList[n]? = some e → e.key = .string ⟨k'.toArray⟩ := fun n k' cs e a b => by
              have := (g4 n k' cs e a (by simpa using b)).1
              generalize e.key = ek at this
              cases this; rfl
            have hMb : ∀ off sp, M ⟨b, off, sp⟩ = none := fun off sp => by
              cases hM : M ⟨b, off, sp⟩ with
              | none => rfl
              | some u =>
                have := (hs.good _ _ hM)
                have h2 := this.2
                simp [World.cell?, g2] at h2
            -- the world behind
            have key : ∃ ms' cl', (Instr.mapUpdate t (.map (some b)) (.string ⟨kk.toArray⟩) zv).run F.C.P w = .ok () { w with heap := w.heap.setIfInBounds b (.map ms' cl') } ∧ ms'.size = (mput kk cs es).length ∧
                (∀ (i : Nat) k' cs' e, (mput kk cs es)[i]? = some (k', cs') → ms'[i]? = some e → RelD M (.str k') e.key ∧ RelA M G (rowA cs') e.val) ∧ ∀ (i : Nat) e, ms'[i]? = some e → e.born < cl' := by
              have hset : ∀ o', (setObj b o').run F.C.P w = .ok () { w with heap := w.heap.setIfInBounds b o' } := fun o' => by simp [setObj, Sem.run, g2]
              rcases findNow_ok (k := kk) (i := 0) (by simpa using g3) hkeys with ⟨h1, h2, h3⟩ | ⟨n, cs0, e, h1, h2, h3, h4, h5⟩
              · refine ⟨ms.push ⟨.string ⟨kk.toArray⟩, zv, cl⟩, cl + 1, ?_, by rw [h3]; simp [g3], fun i k' cs' e hi he => ?_, fun i e he => ?_⟩
                · simp [Instr.mapUpdate, run_underlying hd, run_getMap g2, run_check_str hkd, Instr.findKey, run_underlying hkd, h2, hset]
                · rw [h3] at hi
                  rw [Array.getElem?_push] at he
                  split at he
                  · rename_i hie
                    simp only [Option.some.injEq] at he
                    subst he
                    rw [List.getElem?_append_right (by omega)] at hi
                    have : i - es.length = 0 := by omega
                    rw [this] at hi
                    simp at hi
                    obtain ⟨rfl, rfl⟩ := hi
                    exact ⟨.str hkl, hzr⟩
                  · rename_i hie
                    have hlt : i < ms.size := by have := (Array.getElem?_eq_some_iff.1 he).1; omega
                    rw [List.getElem?_append_left (by omega)] at hi
                    exact g4 i k' cs' e hi he
                · rw [Array.getElem?_push] at he
                  split at he
                  · simp only [Option.some.injEq] at he; subst he; simp
                  · have := g5 i e he; omega
              · have hn : n < ms.size := by simpa using (List.getElem?_eq_some_iff.1 h3).1
                have hmn : ms[n]? = some e := by simpa using h3
                have hke : e.key = .string ⟨kk.toArray⟩ := hkeys n kk cs0 e h1 h3
                have hst : ∀ w, (Instr.keyThatStays (.string ⟨kk.toArray⟩) (.string ⟨kk.toArray⟩)).run F.C.P w = .ok (.string ⟨kk.toArray⟩) w := fun w => by
                  have : Instr.sameBits 10000 (.string ⟨kk.toArray⟩) (.string ⟨kk.toArray⟩) = true := by
                    show ((⟨kk.toArray⟩ : ByteArray) == ⟨kk.toArray⟩) = true
                    rw [mk_eq]
                    simp
                  simp [Instr.keyThatStays, this]
                refine ⟨ms.modify n fun e => { e with key := .string ⟨kk.toArray⟩, val := zv }, cl, ?_, by rw [h5]; simp [g3], fun i k' cs' e' hi he => ?_, fun i e' he => ?_⟩
                · simp [Instr.mapUpdate, run_underlying hd, run_getMap g2, run_check_str hkd, Instr.findKey, run_underlying hkd, h4, hmn, hke, hst, hset]
                · rw [h5, List.getElem?_set] at hi
                  rw [Array.getElem?_modify] at he
                  by_cases hin : n = i
                  · rw [if_pos hin] at he hi
                    subst hin
                    rw [hmn] at he
                    simp only [Option.map_some, Option.some.injEq] at he
                    subst he
                    rw [if_pos (by omega)] at hi
                    simp only [Option.some.injEq, Prod.mk.injEq] at hi
                    obtain ⟨rfl, rfl⟩ := hi
                    exact ⟨.str hkl, hzr⟩
                  · rw [if_neg hin] at he hi
                    exact g4 i k' cs' e' hi he
                · rw [Array.getElem?_modify] at he
                  by_cases hin : n = i
                  · rw [if_pos hin] at he
                    subst hin
                    rw [hmn] at he
                    simp only [Option.map_some, Option.some.injEq] at he
                    subst he
                    exact g5 n e hmn
                  · rw [if_neg hin] at he
                    exact g5 i e' he
            obtain ⟨ms', cl', k1, k2, k3, k4⟩ := key
            have hbk : blk (.map es) (G p) = some b := by rw [hgb]; rfl
            have hbk' : blk (.map (mput kk cs es)) (G p) = some b := by rw [hgb]; rfl
            have hext : Ext (fun c => c = b) M w M { w with heap := w.heap.setIfInBounds b (.map ms' cl') } :=
              ⟨fun _ _ e => e, by simp, rfl, rfl, rfl, fun c _ hc => by simp [Array.getElem?_setIfInBounds_ne (Ne.symm hc)], fun _ _ e => .inl e⟩
            have hob : ObRel M G { w with heap := w.heap.setIfInBounds b (.map ms' cl') } (.map (mput kk cs es)) (G p) :=
              ⟨b, ms', cl', hgb, by simp [hblt], k2, k3, k4⟩
            have hr : (execOp a.eval o).run F.C.P w = .ok .skip { w with heap := w.heap.setIfInBounds b (.map ms' cl') } := by
              unfold execOp
              simp only [ho, hxv, hyv, hzv, Sem.run_bind, k1, Result.andThen_ok, Sem.run_pure]
            unfold Oper.wp
            rw [hr]
            refine hk .junk env _ M G _ undef ?_ (hs.setOb (dstOk_spec hdok) hp hbk hbk' hext hMb hob .junk) (hsi.setOb hp hbk hbk' rfl hext)
            rw [hdst]
            exact k
          · cases h
        · cases h
      · cases h
    · cases h
  · cases h

/-! ### small things for proofs -/

theorem LeA.int {k : IntKind} {n m : Int} (h : n = m) : LeA (.d (.int k n)) (.d (.int k m)) := h ▸ .rfl
theorem LeA.bool {n m : Bool} (h : n = m) : LeA (.d (.bool n)) (.d (.bool m)) := h ▸ .rfl
theorem LeA.str {n m : List UInt8} (h : n = m) : LeA (.d (.str n)) (.d (.str m)) := h ▸ .rfl
theorem LeA.succ {k : Nat} (h : (k : Int) < 9223372036854775807) : LeA (.d (.int .i64 ((k + 1 : Nat) : Int))) (.d (.int .i64 (IntKind.i64.wrap ((k : Int) + 1)))) :=
  .int (by rw [wrap_i64 (by omega) (by omega)]; omega)

end Go.Am

