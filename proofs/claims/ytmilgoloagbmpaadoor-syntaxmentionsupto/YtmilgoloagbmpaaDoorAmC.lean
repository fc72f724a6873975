/- A part of the proof of SyntaxMentions. -/
import Derived.Test.YtmilgoloagbmpaaDoorAmB
import Derived.Lib.LaidTab
namespace Go.Am

theorem okC {C : Cx} [h : Nonempty (CxOk C)] : CxOk C := h.elim id

section
variable {C : Cx} {N K : Nat} {L l : List Oper} {o : Oper} {env : Env} {H : Heap}
theorem n' {Q : Env → Heap → Prop} (h : Q env H) : AOps ⟨C, N, K⟩ L [] env H Q := AOps.nil h
theorem Qn' {Q : Env → Prop} (h : Q env) : AQ C L [] env H Q := h
theorem an' {cnd : Cnd} {R : Env → Cnd → Prop} (h : R env cnd) : AG C L [] env cnd H R := h
end

section
variable {C : Cx} [Nonempty (CxOk C)] {N K : Nat} {L l : List Oper} {o : Oper} {env : Env} {H : Heap}

theorem q' {Q : Env → Heap → Prop} {d : Option Nat} {x : A} (h : stepA C L o env H = some (d, True, x)) (k : AOps ⟨C, N, K⟩ L l (put env d x) H Q) : AOps ⟨C, N, K⟩ L (o :: l) env H Q := AOps.q okC h trivial k
theorem qc' {Q : Env → Heap → Prop} {d : Option Nat} {c : Prop} {x : A} (h : stepA C L o env H = some (d, c, x)) (hc : c) (k : AOps ⟨C, N, K⟩ L l (put env d x) H Q) : AOps ⟨C, N, K⟩ L (o :: l) env H Q := AOps.q okC h hc k
theorem qe' {Q : Env → Heap → Prop} {d : Option Nat} {c : Prop} {x y : A} (h : stepA C L o env H = some (d, c, x)) (hc : c) (e : x = y) (k : AOps ⟨C, N, K⟩ L l (put env d y) H Q) : AOps ⟨C, N, K⟩ L (o :: l) env H Q := AOps.qe okC h hc e k
theorem i' {Q : Env → Heap → Prop} {d : Option Nat} {rows : List (List D)} {n : Int} {sz : Nat} (h : stepI C L o env = some (d, rows, n, sz)) {k : Nat} {r : List D} (hn : n = k) (hk : rows[k]? = some r) (hsz : Nat.beq r.length sz = true)
    (kk : AOps ⟨C, N, K⟩ L l (put env d (.ptr r)) H Q) : AOps ⟨C, N, K⟩ L (o :: l) env H Q := AOps.i okC h hn hk hsz kk
theorem x' {Q : Env → Heap → Prop} {d : Option Nat} {s : List UInt8} {n : Int} (h : stepX C L o env = some (d, s, n)) {k : Nat} {b : UInt8} (hn : n = k) (hk : s[k]? = some b) (kk : AOps ⟨C, N, K⟩ L l (put env d (.d (.int .u8 b.toNat))) H Q) : AOps ⟨C, N, K⟩ L (o :: l) env H Q := AOps.x okC h hn hk kk

theorem Q' {Q : Env → Prop} {d : Option Nat} {x : A} (h : stepA C L o env H = some (d, True, x)) (k : AQ C L l (put env d x) H Q) : AQ C L (o :: l) env H Q := AQ.q okC h trivial k

variable {cnd : Cnd} {R : Env → Cnd → Prop}
/-- no operand has a condition -/
theorem a0' {d : Option Nat} {W : Option Bool} {x : A} (h : stepGA C L o env cnd H = some (d, W, True, True, x)) (k : AG C L l (put env d x) (putC cnd d W) H R) : AG C L (o :: l) env cnd H R := AG.q okC h (fun _ => ⟨trivial, trivial⟩) k
/-- one operand has the operation's own condition -/
theorem a1' {d : Option Nat} {w : Bool} {x : A} (h : stepGA C L o env cnd H = some (d, some w, (w = true ∧ True), True, x)) (k : AG C L l (put env d x) (putC cnd d (some w)) H R) : AG C L (o :: l) env cnd H R := AG.q okC h (fun h => ⟨⟨h, trivial⟩, trivial⟩) k
theorem a2' {d : Option Nat} {w : Bool} {x : A} (h : stepGA C L o env cnd H = some (d, some w, (w = true ∧ w = true ∧ True), True, x)) (k : AG C L l (put env d x) (putC cnd d (some w)) H R) : AG C L (o :: l) env cnd H R := AG.q okC h (fun h => ⟨⟨h, h, trivial⟩, trivial⟩) k
theorem ag' {d : Option Nat} {W : Option Bool} {S c : Prop} {x : A} (h : stepGA C L o env cnd H = some (d, W, S, c, x)) (hs : holds W → S ∧ c) (k : AG C L l (put env d x) (putC cnd d W) H R) : AG C L (o :: l) env cnd H R := AG.q okC h hs k
/-- 'and', 'or' without a condition of their own -/
theorem pa' {d : Option Nat} {t xa xb : Bool} (h : stepGP C L o env cnd = some ⟨d, none, True, t, (wb t true = true ∧ True), True, xa, xb⟩) (k : AG C L l (put env d (.d (.bool (bif t then xa else xb)))) (putC cnd d none) H R) : AG C L (o :: l) env cnd H R :=
  AG.p okC h (fun _ => ⟨trivial, fun h => ⟨wb_t h, trivial⟩, fun _ => trivial⟩) k
theorem po' {d : Option Nat} {t xa xb : Bool} (h : stepGP C L o env cnd = some ⟨d, none, True, t, True, (wb t false = true ∧ True), xa, xb⟩) (k : AG C L l (put env d (.d (.bool (bif t then xa else xb)))) (putC cnd d none) H R) : AG C L (o :: l) env cnd H R :=
  AG.p okC h (fun _ => ⟨trivial, fun _ => trivial, fun h => ⟨wb_f h, trivial⟩⟩) k
/-- under a condition -/
theorem pA' {d : Option Nat} {w t xa xb : Bool} (h : stepGP C L o env cnd = some ⟨d, some w, (w = true ∧ True), t, ((w && wb t true) = true ∧ True), True, xa, xb⟩) (k : AG C L l (put env d (.d (.bool (bif t then xa else xb)))) (putC cnd d (some w)) H R) : AG C L (o :: l) env cnd H R :=
  AG.p okC h (fun hg => ⟨⟨hg, trivial⟩, fun h => ⟨and_t hg h, trivial⟩, fun _ => trivial⟩) k
theorem pO' {d : Option Nat} {w t xa xb : Bool} (h : stepGP C L o env cnd = some ⟨d, some w, (w = true ∧ True), t, True, ((w && wb t false) = true ∧ True), xa, xb⟩) (k : AG C L l (put env d (.d (.bool (bif t then xa else xb)))) (putC cnd d (some w)) H R) : AG C L (o :: l) env cnd H R :=
  AG.p okC h (fun hg => ⟨⟨hg, trivial⟩, fun _ => trivial, fun h => ⟨and_f hg h, trivial⟩⟩) k
theorem pg' {d : Option Nat} {W : Option Bool} {sc sa sb : Prop} {t xa xb : Bool} (h : stepGP C L o env cnd = some ⟨d, W, sc, t, sa, sb, xa, xb⟩) (hs : holds W → sc ∧ (t = true → sa) ∧ (t = false → sb))
    (k : AG C L l (put env d (.d (.bool (bif t then xa else xb)))) (putC cnd d W) H R) : AG C L (o :: l) env cnd H R := AG.p okC h hs k
end

section
variable {F : Fx} {env : Env} {H : Heap} {Q : Po}
/-- a region and what follows -/
theorem s' {id : Nat} {L : List Oper} {b : Code} (hg : noGuards L = true) (hd : L.all (dstOk F.N) = true) (h : AOps F L L env H (After (Then F b Q))) : AEx F (.seq (.region id L.toArray false) b) env H Q := .seq (.regionN hg hd h)
theorem sg' {id : Nat} {L : List Oper} {b : Code} (n : Nat) (hd : L.all (dstOk F.N) = true) (h : AG F.C L (L.take n) env sure H (fun e c => AOps F L (L.drop n) (envS e c) H (After (Then F b Q)))) : AEx F (.seq (.region id L.toArray false) b) env H Q := .seq (.regionG n hd h)
theorem S' {a b : Code} (h : AEx F a env H (Then F b Q)) : AEx F (.seq a b) env H Q := .seq h
theorem R' {id : Nat} {L : List Oper} (hg : noGuards L = true) (hd : L.all (dstOk F.N) = true) (h : AOps F L L env H (After Q)) : AEx F (.region id L.toArray false) env H Q := .regionN hg hd h
theorem sk' (h : Q .normal env H) : AEx F .skip env H Q := .skip h
theorem bk' {id : Nat} {c : Code} (h : AEx F c env H (InBlock id Q)) : AEx F (.block id c) env H Q := .block h
theorem re' (h : Q .ret env H) : AEx F .ret env H Q := .ret h
theorem ex' {id : Nat} (h : Q (.exit id) env H) : AEx F (.exit id) env H Q := .exit h
/-- a branch -/
theorem ci' {c : Operand} {x y : Code} {t : Bool} {α : Type} {A' B' : Option α} {r : α} (hc : ev F.C.GL env c = .d (.bool t)) (hh : (if t = true then A' else B') = some r) (h1 : A' = some r → AEx F x env H Q) (h2 : B' = some r → AEx F y env H Q) : AEx F (.cond c x y) env H Q :=
  .cond hc (fun hb => h1 (if_t hb hh)) (fun hb => h2 (if_f hb hh))
end
theorem bs' {α β : Type} {x : Option α} {f : α → Option β} {r : β} (h : (x >>= f) = some r) : ∃ a, x = some a ∧ f a = some r := bind_some h
theorem oi' {α : Type} {a b : α} (h : some a = some b) : a = b := Option.some.inj h
end Go.Am

namespace Go.Am
open Go.ChangeShapes Go.WideShapes

section
variable {P : Program} {W : World}

theorem laidVars_get : ∀ {laid : List (String × DataW Unit)} {ps : List MemPlace}, DataW.LaidVars P W laid ps → ∀ (i : Nat) n d, laid[i]? = some (n, d) →
    ∃ g t cs fuel p, P.globalNamed n = some g ∧ (P.globals[g]?).map (·.type) = some t ∧ W.var? P n = some cs ∧ DataW.trod (fun _ => ()) P W 0 (fun _ => true) false fuel t cs.toList = some (d, p)
  | [], _, _, i, n, d, hi => by simp at hi
  | (m, e) :: r, ps, h, i, n, d, hi => by
    obtain ⟨g, t, cs, fuel, p, q, h1, h2, h3, h4, h5, _⟩ := h
    cases i with
    | zero => cases hi; exact ⟨g, t, cs, fuel, p, h1, h2, h3, h4⟩
    | succ i => exact laidVars_get h5 i n d (by simpa using hi)

theorem memOf_var {name : String} {g : Nat} {cs : Array Value} (hg : P.globalNamed name = some g) (h : W.var? P name = some cs) {i : Nat} {v : Value} (hi : cs[i]? = some v) : memOf W ⟨g, i, none⟩ = some v := by
  have := World.var?_cell hg h i
  unfold memOf
  rw [if_pos rfl, this, hi]

/-- a table of integers -/
theorem tab_of_laid {laid : List (String × DataW Unit)} (h : laidMet P laid W) (i : Nat) {name : String} {k : IntKind} {zs : List Int} (hi : laid[i]? = some (name, Lib.tabData k zs)) {g : Nat} {t e : TypeId} {n : Nat}
    (hg : P.globalNamed name = some g) (hty : (P.globals[g]?).map (·.type) = some t) (ht : P.underlying t = some (.array n e)) (he : P.underlying e = some (.int k)) (hce : P.cellsOf e = 1) (hct : P.cellsOf t = n) :
    Lib.TabIs P W name k zs ∧ ∀ (j : Nat) z, zs[j]? = some z → memOf W ⟨g, j, none⟩ = some (.int k z) := by
  obtain ⟨ps, hv, _⟩ := h
  obtain ⟨g', t', cs, fuel, p, h1, h2, h3, h4⟩ := laidVars_get hv i _ _ hi
  obtain rfl := Option.some.inj (hg.symm.trans h1)
  obtain rfl := Option.some.inj (hty.symm.trans h2)
  have hc := Lib.cells_of_tab ht he hce hct h4
  have hT : Lib.TabIs P W name k zs := by unfold Lib.TabIs; rw [h3, ← hc]
  exact ⟨hT, fun j z hz => memOf_var hg h3 (by rw [← Array.getElem?_toList, hc, List.getElem?_map, hz]; rfl)⟩

/-- a table that is wholly known stays -/
theorem tabIs_keep {M : Mem} {w w' : World} {name : String} {k : IntKind} {zs : List Int} {g : Nat} (hg : P.globalNamed name = some g) (h0 : 0 < zs.length) (hM : ∀ (j : Nat) z, zs[j]? = some z → M ⟨g, j, none⟩ = some (.int k z))
    (hb : ∀ b, Sealed M w b → w'.heap[b]? = w.heap[b]?) (h : Lib.TabIs P w name k zs) : Lib.TabIs P w' name k zs := by
  unfold Lib.TabIs at h ⊢
  simp only [World.var?, hg, Option.bind_some] at h ⊢
  split at h
  · rename_i cs t f hc
    have hcs := Option.some.inj h
    rw [hb g ⟨cs, t, f, hc, by rw [hcs]; simpa using h0, fun i hi => ?_⟩, hc]
    · exact h
    · rw [hcs] at hi
      have hi' : i < zs.length := by simpa using hi
      rw [hM i zs[i] (List.getElem?_eq_getElem hi')]
      simp
  · cases h

def stabData {H : Type} (zs : List (List UInt8)) : DataW H := .agg (zs.map fun z => .lit (.string z))

theorem trod_strlit {H : Type} {enc : TypeId × Value → H} {base : Nat} {sp : Nat → Bool} {held : Bool} {fuel : Nat} {t : TypeId} {cs : List Value} {x : DataW H × List MemPlace} (ht : P.underlying t = some .string) (h : DataW.trod enc P W base sp held fuel t cs = some x) :
    ∃ z : List UInt8, cs = [.string ⟨z.toArray⟩] ∧ x.1 = .lit (.string z) ∧ z.length ≤ maxLen := by
  cases fuel with
  | zero => simp [DataW.trod] at h
  | succ n =>
    unfold DataW.trod at h
    rw [ht] at h
    split at h <;> first | (rename_i heq; cases heq; done) | skip
    all_goals first | (cases h; done) | skip
    rename_i s heq
    split at h
    · rename_i hc
      simp only [Option.some.injEq] at h
      subst h
      exact ⟨s.data.toList, by simp, rfl, by simpa using hc⟩
    · cases h

theorem cells_of_stab {H : Type} {enc : TypeId × Value → H} {base : Nat} {sp : Nat → Bool} {held : Bool} {fuel : Nat} {t e : TypeId} {n : Nat} {cs : List Value} {zs : List (List UInt8)} {p : List MemPlace}
    (ht : P.underlying t = some (.array n e)) (he : P.underlying e = some .string) (hce : P.cellsOf e = 1) (hct : P.cellsOf t = n)
    (h : DataW.trod enc P W base sp held fuel t cs = some (stabData zs, p)) : (cs = zs.map fun z => Value.string ⟨z.toArray⟩) ∧ ∀ z ∈ zs, z.length ≤ maxLen := by
  cases fuel with
  | zero => simp [DataW.trod] at h
  | succ fuel =>
    simp only [DataW.trod, ht, hce, hct, Nat.mul_one] at h
    split at h
    · rename_i hl
      obtain ⟨xs, hm, hx⟩ := Option.map_eq_some_iff.1 h
      have hxs : xs.map (·.1) = zs.map fun z => (DataW.lit (.string z) : DataW H) := by
        have := congrArg Prod.fst hx
        simpa [stabData] using this
      have hxl : xs.length = n := by simpa using Lib.mapM_length hm
      have hzl : zs.length = n := by
        have := congrArg List.length hxs
        simp at this
        omega
      have key : ∀ i, i < n → ∃ z, zs[i]? = some z ∧ cs[i]? = some (.string ⟨z.toArray⟩) ∧ z.length ≤ maxLen := fun i hi => by
        obtain ⟨b, hb, hf⟩ := Lib.mapM_at hm i i (by simp [hi])
        obtain ⟨z, hc, hz, hlen⟩ := trod_strlit he hf
        have h1 : cs[i]? = some (.string ⟨z.toArray⟩) := by
          have := congrArg (·[0]?) hc
          simpa [List.getElem?_take, List.getElem?_drop] using this
        have h2 : (xs.map (·.1))[i]? = some (DataW.lit (.string z) : DataW H) := by simp [hb, hz]
        rw [hxs] at h2
        simp only [List.getElem?_map, Option.map_eq_some_iff, DataW.lit.injEq, Lit.string.injEq] at h2
        obtain ⟨z', hz', rfl⟩ := h2
        exact ⟨z', hz', h1, hlen⟩
      constructor
      · apply List.ext_getElem?
        intro i
        by_cases hi : i < n
        · obtain ⟨z, hz, hc, _⟩ := key i hi
          simp [hc, hz]
        · rw [List.getElem?_eq_none (by omega), List.getElem?_eq_none (by simp; omega)]
      · intro z hz
        obtain ⟨i, hi⟩ := List.getElem?_of_mem hz
        obtain ⟨z', hz', _, hlen⟩ := key i (by have := (List.getElem?_eq_some_iff.1 hi).1; omega)
        rw [hi] at hz'
        cases hz'
        exact hlen
    · cases h

/-- a table of strings -/
theorem stab_of_laid {laid : List (String × DataW Unit)} (h : laidMet P laid W) (i : Nat) {name : String} {zs : List (List UInt8)} (hi : laid[i]? = some (name, stabData zs)) {g : Nat} {t e : TypeId} {n : Nat}
    (hg : P.globalNamed name = some g) (hty : (P.globals[g]?).map (·.type) = some t) (ht : P.underlying t = some (.array n e)) (he : P.underlying e = some .string) (hce : P.cellsOf e = 1) (hct : P.cellsOf t = n) {G : Nat → Value} :
    RelA (memOf W) G (.ptr (zs.map D.str)) (.pointer (some ⟨g, 0, none⟩)) := by
  obtain ⟨ps, hv, _⟩ := h
  obtain ⟨g', t', cs, fuel, p, h1, h2, h3, h4⟩ := laidVars_get hv i _ _ hi
  obtain rfl := Option.some.inj (hg.symm.trans h1)
  obtain rfl := Option.some.inj (hty.symm.trans h2)
  obtain ⟨hc, hz⟩ := cells_of_stab ht he hce hct h4
  refine .ptr (fun j => .string ⟨(zs.getD j []).toArray⟩) rfl (fun j x hx => ?_) (fun j x hx => ?_)
  · rw [List.getElem?_map] at hx
    cases hj : zs[j]? with
    | none => rw [hj] at hx; cases hx
    | some z =>
      rw [addr_add_lit, Nat.zero_add]
      exact memOf_var hg h3 (by rw [← Array.getElem?_toList, hc, List.getElem?_map, hj]; simp [List.getD, hj])
  · rw [List.getElem?_map] at hx
    cases hj : zs[j]? with
    | none => rw [hj] at hx; cases hx
    | some z =>
      rw [hj] at hx
      cases hx
      have e : zs.getD j [] = z := by simp [List.getD, hj]
      rw [e]
      exact .str (hz z (List.mem_of_getElem? hj))
end
end Go.Am

