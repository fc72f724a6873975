/-
  The abstract machine: short names for the rules that the printed texts use most.
-/
import Derived.Test.YtmilgoloagbmpaaGreatDoorAmX
namespace Go.Am

class OkC (C : Cx) : Prop where
  ok : CxOk C

section
variable {C : Cx} [OkC C] {N K : Nat} {L l : List Oper} {o : Oper} {env : Env} {H : Heap}

theorem q' {Q : Env → Heap → Prop} {d : Option Nat} {x : A} (h : stepA C L o env H = some (d, True, x)) (k : AOps ⟨C, N, K⟩ L l (put env d x) H Q) : AOps ⟨C, N, K⟩ L (o :: l) env H Q := AOps.q OkC.ok h trivial k
theorem qc' {Q : Env → Heap → Prop} {d : Option Nat} {c : Prop} {x : A} (h : stepA C L o env H = some (d, c, x)) (hc : c) (k : AOps ⟨C, N, K⟩ L l (put env d x) H Q) : AOps ⟨C, N, K⟩ L (o :: l) env H Q := AOps.q OkC.ok h hc k
theorem qe' {Q : Env → Heap → Prop} {d : Option Nat} {c : Prop} {x y : A} (h : stepA C L o env H = some (d, c, x)) (hc : c) (e : x = y) (k : AOps ⟨C, N, K⟩ L l (put env d y) H Q) : AOps ⟨C, N, K⟩ L (o :: l) env H Q := AOps.qe OkC.ok h hc e k
omit [OkC C] in
theorem n' {Q : Env → Heap → Prop} (h : Q env H) : AOps ⟨C, N, K⟩ L [] env H Q := AOps.nil h
theorem i' {Q : Env → Heap → Prop} {d : Option Nat} {rows : List (List D)} {n : Int} {sz : Nat} (h : stepI C L o env = some (d, rows, n, sz)) {k : Nat} {r : List D} (hn : n = k) (hk : rows[k]? = some r) (hsz : Nat.beq r.length sz = true)
    (kk : AOps ⟨C, N, K⟩ L l (put env d (.ptr r)) H Q) : AOps ⟨C, N, K⟩ L (o :: l) env H Q := AOps.i OkC.ok h hn hk hsz kk
theorem x' {Q : Env → Heap → Prop} {d : Option Nat} {s : List UInt8} {n : Int} (h : stepX C L o env = some (d, s, n)) {k : Nat} {b : UInt8} (hn : n = k) (hk : s[k]? = some b) (kk : AOps ⟨C, N, K⟩ L l (put env d (.d (.int .u8 b.toNat))) H Q) : AOps ⟨C, N, K⟩ L (o :: l) env H Q := AOps.x OkC.ok h hn hk kk

theorem Q' {Q : Env → Prop} {d : Option Nat} {x : A} (h : stepA C L o env H = some (d, True, x)) (k : AQ C L l (put env d x) H Q) : AQ C L (o :: l) env H Q := AQ.q OkC.ok h trivial k
omit [OkC C] in
theorem Qn' {Q : Env → Prop} (h : Q env) : AQ C L [] env H Q := h

variable {cnd : Cnd} {R : Env → Cnd → Prop}
/-- no operand has a condition -/
theorem a0' {d : Option Nat} {W : Option Bool} {x : A} (h : stepGA C L o env cnd H = some (d, W, True, True, x)) (k : AG C L l (put env d x) (putC cnd d W) H R) : AG C L (o :: l) env cnd H R := AG.q OkC.ok h (fun _ => ⟨trivial, trivial⟩) k
/-- one operand has the operation's own condition -/
theorem a1' {d : Option Nat} {w : Bool} {x : A} (h : stepGA C L o env cnd H = some (d, some w, (w = true ∧ True), True, x)) (k : AG C L l (put env d x) (putC cnd d (some w)) H R) : AG C L (o :: l) env cnd H R := AG.q OkC.ok h (fun h => ⟨⟨h, trivial⟩, trivial⟩) k
theorem a2' {d : Option Nat} {w : Bool} {x : A} (h : stepGA C L o env cnd H = some (d, some w, (w = true ∧ w = true ∧ True), True, x)) (k : AG C L l (put env d x) (putC cnd d (some w)) H R) : AG C L (o :: l) env cnd H R := AG.q OkC.ok h (fun h => ⟨⟨h, h, trivial⟩, trivial⟩) k
theorem ag' {d : Option Nat} {W : Option Bool} {S c : Prop} {x : A} (h : stepGA C L o env cnd H = some (d, W, S, c, x)) (hs : holds W → S ∧ c) (k : AG C L l (put env d x) (putC cnd d W) H R) : AG C L (o :: l) env cnd H R := AG.q OkC.ok h hs k
omit [OkC C] in
theorem an' (h : R env cnd) : AG C L [] env cnd H R := h
/-- 'and', 'or' without a condition of their own -/
theorem pa' {d : Option Nat} {t xa xb : Bool} (h : stepGP C L o env cnd = some ⟨d, none, True, t, (wb t true = true ∧ True), True, xa, xb⟩) (k : AG C L l (put env d (.d (.bool (bif t then xa else xb)))) (putC cnd d none) H R) : AG C L (o :: l) env cnd H R :=
  AG.p OkC.ok h (fun _ => ⟨trivial, fun h => ⟨wb_t h, trivial⟩, fun _ => trivial⟩) k
theorem po' {d : Option Nat} {t xa xb : Bool} (h : stepGP C L o env cnd = some ⟨d, none, True, t, True, (wb t false = true ∧ True), xa, xb⟩) (k : AG C L l (put env d (.d (.bool (bif t then xa else xb)))) (putC cnd d none) H R) : AG C L (o :: l) env cnd H R :=
  AG.p OkC.ok h (fun _ => ⟨trivial, fun _ => trivial, fun h => ⟨wb_f h, trivial⟩⟩) k
/-- under a condition -/
theorem pA' {d : Option Nat} {w t xa xb : Bool} (h : stepGP C L o env cnd = some ⟨d, some w, (w = true ∧ True), t, ((w && wb t true) = true ∧ True), True, xa, xb⟩) (k : AG C L l (put env d (.d (.bool (bif t then xa else xb)))) (putC cnd d (some w)) H R) : AG C L (o :: l) env cnd H R :=
  AG.p OkC.ok h (fun hg => ⟨⟨hg, trivial⟩, fun h => ⟨and_t hg h, trivial⟩, fun _ => trivial⟩) k
theorem pO' {d : Option Nat} {w t xa xb : Bool} (h : stepGP C L o env cnd = some ⟨d, some w, (w = true ∧ True), t, True, ((w && wb t false) = true ∧ True), xa, xb⟩) (k : AG C L l (put env d (.d (.bool (bif t then xa else xb)))) (putC cnd d (some w)) H R) : AG C L (o :: l) env cnd H R :=
  AG.p OkC.ok h (fun hg => ⟨⟨hg, trivial⟩, fun _ => trivial, fun h => ⟨and_f hg h, trivial⟩⟩) k
end

section
variable {F : Fx} {env : Env} {H : Heap} {Q : Po}
/-- a region and what follows -/
theorem s' {id : Nat} {L : List Oper} {b : Code} (hg : noGuards L = true) (hd : L.all (dstOk F.N) = true) (h : AOps F L L env H (After (Then F b Q))) : AEx F (.seq (.region id L.toArray false) b) env H Q := .seq (.regionN hg hd h)
theorem sg' {id : Nat} {L : List Oper} {b : Code} (n : Nat) (hd : L.all (dstOk F.N) = true) (h : AG F.C L (L.take n) env sure H (fun e c => AOps F L (L.drop n) (envS e c) H (After (Then F b Q)))) : AEx F (.seq (.region id L.toArray false) b) env H Q := .seq (.regionG n hd h)
theorem S' {a b : Code} (h : AEx F a env H (Then F b Q)) : AEx F (.seq a b) env H Q := .seq h
theorem R' {id : Nat} {L : List Oper} (hg : noGuards L = true) (hd : L.all (dstOk F.N) = true) (h : AOps F L L env H (After Q)) : AEx F (.region id L.toArray false) env H Q := .regionN hg hd h
theorem sk' (h : Q .normal env H) : AEx F .skip env H Q := .skip h
theorem bk' {id : Nat} {c : Code} (h : AEx F c env H (InBlock id Q)) : AEx F (.block id c) env H Q := .block h
theorem re' (h : Q .ret env H) : AEx F .ret env H Q := .ret h
theorem ex' {id : Nat} (h : Q (.exit id) env H) : AEx F (.exit id) env H Q := .exit h
/-- a branch -/
theorem ci' {c : Operand} {x y : Code} {t : Bool} {α : Type} {A' B' : Option α} {r : α} (hc : ev F.C.GL env c = .d (.bool t)) (hh : (if t = true then A' else B') = some r) (h1 : A' = some r → AEx F x env H Q) (h2 : B' = some r → AEx F y env H Q) : AEx F (.cond c x y) env H Q :=
  .cond hc (fun hb => h1 (if_t hb hh)) (fun hb => h2 (if_f hb hh))
end
theorem bs' {α β : Type} {x : Option α} {f : α → Option β} {r : β} (h : (x >>= f) = some r) : ∃ a, x = some a ∧ f a = some r := bind_some h
theorem oi' {α : Type} {a b : α} (h : some a = some b) : a = b := Option.some.inj h
end Go.Am

