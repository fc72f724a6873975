/- A part of the proof of SyntaxPrint. -/
import Derived.Test.YtmilgoloagbmpaaGreatDoorPlA
import Derived.Test.YtmilgoloagbmpaaGreatDoorDgC
import Derived.ProofKit
set_option linter.unusedSimpArgs false
set_option linter.unusedVariables false
set_option maxHeartbeats 4000000
namespace Go.Proofs.YtmilgoloagbmpaaGreatDoor
open Go.Am
structure A13 (l : List E0) : Prop where
  form : E0.alls A8 l = true
  numb : E0.alls Vg l = true
  ok : OkD l
theorem E0.alls_mem {p : E0 → Bool} : ∀ {l : List E0} {t : E0}, E0.alls p l = true → t ∈ l → t.all p = true
  | x :: r, t, h, hm => by
    simp only [E0.alls, Bool.and_eq_true] at h
    cases hm with
    | head => exact h.1
    | tail _ hm => exact E0.alls_mem h.2 hm
structure Mw (d : E0) : Prop where
  type : Cs d.TypeV
  init : Z5 d.Init
structure Yr (d : E0) : Prop where
  kind : 0 ≤ d.Kind ∧ d.Kind ≤ 6
  self : Mw d
  value : uV2 d.Kind = true → Va d.Value
  params : ∀ x ∈ d.Params, Mw x
  vars : ∀ x ∈ d.Vars, Mw x
  plen : d.Params.length ≤ BB
  vlen : d.Vars.length ≤ BB
  body : Fq d.Body
theorem A13.var {l : List E0} (h : A13 l) {d : E0} (hd : d ∈ l) : Mw d := by
  have hf := E0.alls_mem h.form hd
  have hn := E0.alls_mem h.numb hd
  rw [E0.all_eq, Bool.and_eq_true] at hf hn
  have f0 := hf.1
  have n0 := hn.1
  unfold A8 at f0
  unfold Vg at n0
  simp only [Bool.and_eq_true] at f0 n0
  have n1 := n0.1.2
  refine ⟨⟨f0.1.1.1.1.1.1.2, n0.1.1.1, (h.ok.mem hd).type⟩, ?_⟩
  unfold Mu A2 at n1
  by_cases h1 : d.Init ≥ -1048576
  · by_cases h2 : d.Init ≤ 1048576
    · unfold Z5; omega
    · rw [decide_eq_true h1, decide_eq_false h2] at n1; cases n1
  · rw [decide_eq_false h1] at n1; cases n1
theorem A13.mem {l : List E0} (h : A13 l) {d : E0} (hd : d ∈ l) : Yr d := by
  have hf := E0.alls_mem h.form hd
  have hn := E0.alls_mem h.numb hd
  have ho := h.ok.mem hd
  rw [E0.all_eq, Bool.and_eq_true, Bool.and_eq_true] at hf hn
  obtain ⟨f0, fp, fv⟩ := hf
  obtain ⟨n0, np, nv⟩ := hn
  have FP : A13 d.Params := ⟨fp, np, ho.params⟩
  have FV : A13 d.Vars := ⟨fv, nv, ho.vars⟩
  unfold A8 at f0
  unfold Vg at n0
  simp only [Bool.and_eq_true] at f0 n0
  refine ⟨?_, h.var hd, fun hu => ?_, fun x hx => FP.var hx, fun x hx => FV.var hx, ho.params.len, ho.vars.len, ⟨f0.2, n0.2, ho.body⟩⟩
  · have := f0.1.1.1.1.1.1.1
    unfold isK at this
    simp at this
    omega
  · have := f0.1.1.1.1.1.2
    unfold oF at this
    rw [hu] at this
    exact ⟨this, n0.1.1.2, ho.value⟩
def Na (nm : Str) (t : D0) : Str := nm ++ [58, 32] ++ t.text
def O1a (d : E0) : Str := bif d.Init != 0 then [32, 61, 32] ++ (bif d.TypeV.Kind == 0 then [116, 114, 117, 101] else Lib.itoa d.Init) else []
def Z10 (d : E0) : Str := [118, 97, 114, 32] ++ Na d.Name d.TypeV ++ O1a d ++ [59, 10]
def Zv : Bool → List E0 → Str
  | _, [] => []
  | f, x :: r => (bif f then [] else [44, 32]) ++ Na x.Name x.TypeV ++ Zv false r
def Gq : List E0 → Str
  | [] => []
  | x :: r => [9] ++ Z10 x ++ Gq r
def B13 (d : E0) : Str := [102, 117, 110, 99, 32] ++ d.Name ++ [40] ++ Zv true d.Params ++ [41, 58, 32] ++ d.TypeV.text ++ [32, 123, 10] ++ Gq d.Vars ++ B0.lines d.Body [9] ++ [9, 114, 101, 116, 117, 114, 110, 32] ++ d.Value.text ++ [59, 10, 125, 10]
def Ec (d : E0) : Str :=
  bif d.Kind == 4 then Z10 d else bif d.Kind == 6 then B13 d else bif d.Kind == 0 then [116, 121, 112, 101, 32] ++ d.Name ++ [32, 61, 32] ++ d.TypeV.text ++ [59, 10]
  else bif d.Kind == 1 then [115, 101, 99, 114, 101, 116, 32] ++ Na d.Name d.TypeV ++ [59, 10] else bif d.Kind == 2 then [112, 117, 98, 108, 105, 99, 32] ++ Na d.Name d.TypeV ++ [59, 10]
  else bif d.Kind == 3 then [114, 97, 110, 100, 111, 109, 32] ++ Na d.Name d.TypeV ++ [59, 10] else [104, 97, 116, 99, 104, 32] ++ Na d.Name d.TypeV ++ [32, 61, 32] ++ d.Value.text ++ [59, 10]
def Ou : List E0 → Str
  | [] => []
  | x :: r => Ec x ++ Ou r
def D1u (p : L0) : Str := Ou p.Decls ++ [98, 101, 103, 105, 110, 10] ++ B0.lines p.Body [9] ++ [101, 110, 100, 10]
theorem R15 {d : E0} (h : Mw d) : (O1a d).length ≤ 22 := by
  have := Y4 h.init
  unfold O1a
  cases (d.Init != 0) <;> cases (d.TypeV.Kind == 0) <;> simp <;> omega
theorem Nz {d : E0} (h : Mw d) : (Z10 d).length ≤ 100 * d.bulk := by
  have h1 := R15 h
  have h2 := La _ h.type
  have h3 := E0.bulk_eq d
  unfold Z10 Na
  simp only [List.length_append, List.length_cons, List.length_nil]; omega
theorem K1i : ∀ (f : Bool) (l : List E0), (∀ x ∈ l, Mw x) → (Zv f l).length ≤ 100 * E0.bulks l
  | f, [], _ => by simp [Zv]
  | f, x :: r, h => by
    have h0 := K1i false r (fun y hy => h y (List.mem_cons_of_mem _ hy))
    have h2 := La _ (h x List.mem_cons_self).type
    have h3 := E0.bulk_eq x
    simp only [Zv, E0.bulks, Na]
    cases f <;> simp only [cond_true, cond_false, List.length_append, List.length_cons, List.length_nil] <;> omega
theorem E1d : ∀ (l : List E0), (∀ x ∈ l, Mw x) → (Gq l).length ≤ 101 * E0.bulks l
  | [], _ => by simp [Gq]
  | x :: r, h => by
    have h0 := E1d r (fun y hy => h y (List.mem_cons_of_mem _ hy))
    have h2 := Nz (h x List.mem_cons_self)
    have h3 := E0.bulk_eq x
    simp only [Gq, E0.bulks, List.length_append, List.length_cons, List.length_nil]; omega
theorem L1i {d : E0} (h : Yr d) (hk : d.Kind = 6) (hb : d.bulk ≤ 1048576) : (B13 d).length ≤ 8000000 * d.bulk := by
  have h1 := K1i true _ h.params
  have h2 := E1d _ h.vars
  have h3 := E0.bulk_eq d
  have h4 := La _ h.self.type
  have h5 := Y2 _ (h.value (by rw [hk]; rfl))
  have h6 := Gd _ h.body [9] (by simp only [List.length_cons, List.length_nil]; omega)
  unfold B13
  simp only [List.length_append, List.length_cons, List.length_nil]; omega
theorem kinds {d : E0} (h : Yr d) : d.Kind = 0 ∨ d.Kind = 1 ∨ d.Kind = 2 ∨ d.Kind = 3 ∨ d.Kind = 4 ∨ d.Kind = 5 ∨ d.Kind = 6 := by have := h.kind; omega
theorem F1d {d : E0} (h : Yr d) (hb : d.bulk ≤ 1048576) : (Ec d).length ≤ 8000000 * d.bulk := by
  have h2 := La _ h.self.type
  have h3 := E0.bulk_eq d
  have h4 := Nz h.self
  rcases kinds h with hk | hk | hk | hk | hk | hk | hk
  · unfold Ec; rw [hk]; show ([116, 121, 112, 101, 32] ++ d.Name ++ [32, 61, 32] ++ d.TypeV.text ++ [59, 10]).length ≤ _; simp only [List.length_append, List.length_cons, List.length_nil]; omega
  · unfold Ec; rw [hk]; show ([115, 101, 99, 114, 101, 116, 32] ++ (d.Name ++ [58, 32] ++ d.TypeV.text) ++ [59, 10]).length ≤ _; simp only [List.length_append, List.length_cons, List.length_nil]; omega
  · unfold Ec; rw [hk]; show ([112, 117, 98, 108, 105, 99, 32] ++ (d.Name ++ [58, 32] ++ d.TypeV.text) ++ [59, 10]).length ≤ _; simp only [List.length_append, List.length_cons, List.length_nil]; omega
  · unfold Ec; rw [hk]; show ([114, 97, 110, 100, 111, 109, 32] ++ (d.Name ++ [58, 32] ++ d.TypeV.text) ++ [59, 10]).length ≤ _; simp only [List.length_append, List.length_cons, List.length_nil]; omega
  · unfold Ec; rw [hk]; show (Z10 d).length ≤ _; omega
  · have h5 := Y2 _ (h.value (by rw [hk]; rfl))
    unfold Ec; rw [hk]; show ([104, 97, 116, 99, 104, 32] ++ (d.Name ++ [58, 32] ++ d.TypeV.text) ++ [32, 61, 32] ++ d.Value.text ++ [59, 10]).length ≤ _; simp only [List.length_append, List.length_cons, List.length_nil]; omega
  · have := L1i h hk hb
    unfold Ec; rw [hk]; show (B13 d).length ≤ _; omega
theorem Xp (nm : Str) {t : D0} (h : Cs t) (b : Str) (hb : b.length + nm.length + 64 * t.bulk + 2 ≤ LL) : A3 nm t b = some (b ++ Na nm t) := by
  rw [A3, fit (by omega), ws (by (try simp only [List.length_append, List.length_cons, List.length_nil]); omega), ob, R18 t h _ (by (try simp only [List.length_append, List.length_cons, List.length_nil]); omega), ob]
  unfold Na
  simp
theorem M1l {d : E0} (h : Mw d) (b : Str) (hb : b.length + 100 * d.bulk ≤ LL) : E5 d b = some (b ++ Z10 d) := by
  have h1 := R15 h
  have h2 := La _ h.type
  have h3 := E0.bulk_eq d
  have h4 := Y4 h.init
  have hn : (Na d.Name d.TypeV).length ≤ d.Name.length + 64 * d.TypeV.bulk + 2 := by unfold Na; simp only [List.length_append, List.length_cons, List.length_nil]; omega
  rw [E5, ws (by (try simp only [List.length_append, List.length_cons, List.length_nil]); omega), ob, Xp d.Name h.type _ (by (try simp only [List.length_append, List.length_cons, List.length_nil]); omega), ob]
  unfold Z10 O1a
  cases (d.Init != 0) with
  | false =>
    rw [if_neg (by simp), ws (by (try simp only [List.length_append, List.length_cons, List.length_nil]); omega), ob]
    simp
  | true =>
    rw [if_pos rfl, Ll h.init, ob]
    cases (d.TypeV.Kind == 0) with
    | true =>
      rw [if_pos rfl, U3, fit (by unfold LL; simp), ws (by (try simp only [List.length_append, List.length_cons, List.length_nil]); omega), ob, ws (by (try simp only [List.length_append, List.length_cons, List.length_nil]); omega), ob]
      simp
    | false =>
      rw [if_neg (by simp), U3, fit (by unfold LL; omega), ws (by (try simp only [List.length_append, List.length_cons, List.length_nil]); omega), ob, ws (by (try simp only [List.length_append, List.length_cons, List.length_nil]); omega), ob]
      simp
theorem N1l (d : E0) (h : Yr d) (hk : d.Kind = 6) (hb0 : d.bulk ≤ 1048576) : ∀ (r : List E0) (k : Nat) (b : Str), d.Vars.drop k = r → b.length + 101 * E0.bulks r + 8000000 * B0.bulks d.Body + 40 * d.Value.bulk + 20 ≤ LL →
    Y1 d b k = some (b ++ Gq r ++ B0.lines d.Body [9] ++ [9, 114, 101, 116, 117, 114, 110, 32] ++ d.Value.text ++ [59, 10, 125, 10])
  | [], k, b, hr, hb => by
    have h3 := E0.bulk_eq d
    have h5 := h.value (by rw [hk]; rfl)
    have h6 := Gd _ h.body [9] (by simp only [List.length_cons, List.length_nil]; omega)
    have h7 := Y2 _ h5
    simp only [E0.bulks] at hb
    rw [Y1, (K1 hr).1, if_neg (by simp), P15 _ h.body [9] b (by simp only [List.length_cons, List.length_nil]; omega) (by omega), ob, ws (by (try simp only [List.length_append, List.length_cons, List.length_nil]); omega), ob, Qf _ h5 _ (by (try simp only [List.length_append, List.length_cons, List.length_nil]); omega), ob, ws (by (try simp only [List.length_append, List.length_cons, List.length_nil]); omega), ob]
    simp [Gq]
  | x :: r, k, b, hr, hb => by
    obtain ⟨e1, e2, e3, e4, e5⟩ := W1 hr
    have hv := h.vars x e5
    have h2 := Nz hv
    have h3 := E0.bulk_eq x
    have := h.vlen
    simp only [E0.bulks] at hb
    rw [Y1, e1, if_pos rfl, e2, ob, ws (by (try simp only [List.length_append, List.length_cons, List.length_nil]); omega), ob, M1l hv _ (by (try simp only [List.length_append, List.length_cons, List.length_nil]); omega), ob, w1 (by omega), N1l d h hk hb0 r (k + 1) _ e3 (by (try simp only [List.length_append, List.length_cons, List.length_nil]); omega)]
    simp [Gq]
theorem M1i (d : E0) (h : Yr d) (hk : d.Kind = 6) (hb0 : d.bulk ≤ 1048576) : ∀ (r : List E0) (k : Nat) (b : Str), d.Params.drop k = r → b.length + 100 * E0.bulks r + 64 * d.TypeV.bulk + 101 * E0.bulks d.Vars + 8000000 * B0.bulks d.Body + 40 * d.Value.bulk + 40 ≤ LL →
    Z1 d b k = some (b ++ Zv (k == 0) r ++ [41, 58, 32] ++ d.TypeV.text ++ [32, 123, 10] ++ Gq d.Vars ++ B0.lines d.Body [9] ++ [9, 114, 101, 116, 117, 114, 110, 32] ++ d.Value.text ++ [59, 10, 125, 10])
  | [], k, b, hr, hb => by
    have h4 := La _ h.self.type
    simp only [E0.bulks] at hb
    have := N1l d h hk hb0 d.Vars 0 (b ++ [41, 58, 32] ++ d.TypeV.text ++ [32, 123, 10]) rfl (by (try simp only [List.length_append, List.length_cons, List.length_nil]); omega)
    rw [show ((0 : Nat) : Int) = 0 from rfl] at this
    rw [Z1, (K1 hr).1, if_neg (by simp), ws (by (try simp only [List.length_append, List.length_cons, List.length_nil]); omega), ob, R18 _ h.self.type _ (by (try simp only [List.length_append, List.length_cons, List.length_nil]); omega), ob, ws (by (try simp only [List.length_append, List.length_cons, List.length_nil]); omega), ob, this]
    simp [Zv]
  | x :: r, k, b, hr, hb => by
    obtain ⟨e1, e2, e3, e4, e5⟩ := W1 hr
    have hv := h.params x e5
    have h2 := La _ hv.type
    have h3 := E0.bulk_eq x
    have := h.plen
    have hn : (Na x.Name x.TypeV).length ≤ x.Name.length + 64 * x.TypeV.bulk + 2 := by unfold Na; simp only [List.length_append, List.length_cons, List.length_nil]; omega
    simp only [E0.bulks] at hb
    rw [Z1, e1, if_pos rfl, e2, ob]
    cases k with
    | zero =>
      rw [if_neg (by simp), C3, Xp _ hv.type _ (by omega), ob, w1 (by omega), M1i d h hk hb0 r 1 _ e3 (by (try simp only [List.length_append, List.length_cons, List.length_nil]); omega)]
      simp [Zv]
    | succ k =>
      rw [if_pos (decide_eq_true (by omega)), ws (by (try simp only [List.length_append, List.length_cons, List.length_nil]); omega), ob, C3, Xp _ hv.type _ (by (try simp only [List.length_append, List.length_cons, List.length_nil]); omega), ob, w1 (by omega), M1i d h hk hb0 r (k + 1 + 1) _ e3 (by (try simp only [List.length_append, List.length_cons, List.length_nil]); omega)]
      simp [Zv]
theorem D1s {d : E0} (h : Yr d) (hb0 : d.bulk ≤ 1048576) (b : Str) (hb : b.length + 8000000 * d.bulk ≤ LL) : Y8 d b = some (b ++ Ec d) := by
  have h2 := La _ h.self.type
  have h3 := E0.bulk_eq d
  have hn : (Na d.Name d.TypeV).length ≤ d.Name.length + 64 * d.TypeV.bulk + 2 := by unfold Na; simp only [List.length_append, List.length_cons, List.length_nil]; omega
  unfold Y8 Ec
  rcases kinds h with hk | hk | hk | hk | hk | hk | hk
  · rw [hk, if_neg (by simp), if_neg (by simp), if_pos (by simp), fit (by unfold LL at *; omega), fit (by (try simp only [List.length_append, List.length_cons, List.length_nil]); (try unfold LL at *); omega), ws (by (try simp only [List.length_append, List.length_cons, List.length_nil]); omega), ob, R18 _ h.self.type _ (by (try simp only [List.length_append, List.length_cons, List.length_nil]); omega), ob, ws (by (try simp only [List.length_append, List.length_cons, List.length_nil]); omega), ob]
    show some _ = some (b ++ ([116, 121, 112, 101, 32] ++ d.Name ++ [32, 61, 32] ++ d.TypeV.text ++ [59, 10]))
    simp
  · rw [hk, if_neg (by simp), if_neg (by simp), if_neg (by simp), if_pos (by simp), ws (by (try simp only [List.length_append, List.length_cons, List.length_nil]); omega), ob, Xp _ h.self.type _ (by (try simp only [List.length_append, List.length_cons, List.length_nil]); omega), ob, ws (by (try simp only [List.length_append, List.length_cons, List.length_nil]); omega), ob]
    show some _ = some (b ++ ([115, 101, 99, 114, 101, 116, 32] ++ Na d.Name d.TypeV ++ [59, 10]))
    simp
  · rw [hk, if_neg (by simp), if_neg (by simp), if_neg (by simp), if_neg (by simp), if_pos (by simp), ws (by (try simp only [List.length_append, List.length_cons, List.length_nil]); omega), ob, Xp _ h.self.type _ (by (try simp only [List.length_append, List.length_cons, List.length_nil]); omega), ob, ws (by (try simp only [List.length_append, List.length_cons, List.length_nil]); omega), ob]
    show some _ = some (b ++ ([112, 117, 98, 108, 105, 99, 32] ++ Na d.Name d.TypeV ++ [59, 10]))
    simp
  · rw [hk, if_neg (by simp), if_neg (by simp), if_neg (by simp), if_neg (by simp), if_neg (by simp), if_pos (by simp), ws (by (try simp only [List.length_append, List.length_cons, List.length_nil]); omega), ob, Xp _ h.self.type _ (by (try simp only [List.length_append, List.length_cons, List.length_nil]); omega), ob, ws (by (try simp only [List.length_append, List.length_cons, List.length_nil]); omega), ob]
    show some _ = some (b ++ ([114, 97, 110, 100, 111, 109, 32] ++ Na d.Name d.TypeV ++ [59, 10]))
    simp
  · rw [hk, if_pos (by simp), M1l h.self b (by omega), ob]
    rfl
  · have h5 := h.value (by rw [hk]; rfl)
    have h6 := Y2 _ h5
    rw [hk, if_neg (by simp), if_neg (by simp), if_neg (by simp), if_neg (by simp), if_neg (by simp), if_neg (by simp), if_pos (by simp), ws (by (try simp only [List.length_append, List.length_cons, List.length_nil]); omega), ob, Xp _ h.self.type _ (by (try simp only [List.length_append, List.length_cons, List.length_nil]); omega), ob, ws (by (try simp only [List.length_append, List.length_cons, List.length_nil]); omega), ob, Qf _ h5 _ (by (try simp only [List.length_append, List.length_cons, List.length_nil]); omega), ob, ws (by (try simp only [List.length_append, List.length_cons, List.length_nil]); omega), ob]
    show some _ = some (b ++ ([104, 97, 116, 99, 104, 32] ++ Na d.Name d.TypeV ++ [32, 61, 32] ++ d.Value.text ++ [59, 10]))
    simp
  · have := M1i d h hk hb0 d.Params 0 (b ++ ([102, 117, 110, 99, 32] ++ d.Name ++ [40])) rfl (by (try simp only [List.length_append, List.length_cons, List.length_nil]); omega)
    rw [show ((0 : Nat) : Int) = 0 from rfl, show ((0 : Nat) == 0) = true from rfl] at this
    rw [hk, if_neg (by simp), if_pos (by simp), R7, fit (by unfold LL at *; omega), fit (by (try simp only [List.length_append, List.length_cons, List.length_nil]); (try unfold LL at *); omega), ws (by (try simp only [List.length_append, List.length_cons, List.length_nil]); omega), ob, this, ob]
    show some _ = some (b ++ B13 d)
    unfold B13
    simp
structure T1n (p : L0) : Prop where
  decls : A13 p.Decls
  body : Fq p.Body
  small : E0.bulks p.Decls + B0.bulks p.Body ≤ 1048576
theorem O1l (p : L0) (h : T1n p) : ∀ (r : List E0) (k : Nat) (b : Str), p.Decls.drop k = r → b.length + 8000000 * E0.bulks r + 8000000 * B0.bulks p.Body + 20 ≤ LL →
    E6 p b k = some (V11 (b ++ Ou r ++ [98, 101, 103, 105, 110, 10] ++ B0.lines p.Body [9] ++ [101, 110, 100, 10]))
  | [], k, b, hr, hb => by
    have h0 := h.small
    have h6 := Gd _ h.body [9] (by simp only [List.length_cons, List.length_nil]; omega)
    simp only [E0.bulks] at hb
    rw [E6, (K1 hr).1, if_neg (by simp), ws (by (try simp only [List.length_append, List.length_cons, List.length_nil]); omega), ob, P15 _ h.body [9] _ (by simp only [List.length_cons, List.length_nil]; omega) (by (try simp only [List.length_append, List.length_cons, List.length_nil]); omega), ob, ws (by (try simp only [List.length_append, List.length_cons, List.length_nil]); omega), ob, V1r, ob]
    simp [Ou]
  | x :: r, k, b, hr, hb => by
    obtain ⟨e1, e2, e3, e4, e5⟩ := W1 hr
    have h0 := h.small
    have hx := h.decls.mem e5
    have hxb : x.bulk ≤ 1048576 := by have := E0.bulk_mem e5; omega
    have h2 := F1d hx hxb
    have := h.decls.ok.len
    simp only [E0.bulks] at hb
    rw [E6, e1, if_pos rfl, e2, ob, D1s hx hxb b (by omega), ob, w1 (by omega), O1l p h r (k + 1) _ e3 (by (try simp only [List.length_append, List.length_cons, List.length_nil]); omega)]
    simp [Ou]
theorem N1i {p : L0} (ho : OkP p) (hs : E0.bulks p.Decls + B0.bulks p.Body ≤ 1048576) (h : Nu p = 0) : T1n p := by
  unfold Nu Nt at h
  cases hb : (bif decide ((L15 p : Int) > 1024) then true else decide ((M15 p : Int) > 12)) <;> rw [hb] at h
  · cases hf : (E0.alls A8 p.Decls && B0.alls J8 p.Body) <;> rw [hf] at h
    · cases h
    · cases hn : (E0.alls Ug p.Decls && B0.alls Wd p.Body) <;> rw [hn] at h
      · cases h
      · cases hu : (E0.alls Vg p.Decls && B0.alls Wa p.Body) <;> rw [hu] at h
        · cases h
        · rw [Bool.and_eq_true] at hf hu
          exact ⟨⟨hf.1, hu.1, ho.decls⟩, ⟨hf.2, hu.2, ho.body⟩, hs⟩
  · cases h
def P1a (p : L0) : Str × Int := bif Nu p != 0 then ([], Nu p) else V11 (D1u p)
theorem E1s (p : L0) (ho : OkP p) (hs : E0.bulks p.Decls + B0.bulks p.Body ≤ 1048576) : Gf p = some (P1a p) := by
  unfold Gf P1a
  rw [Y1r p ho, ob]
  cases h : Nu p != 0 with
  | true => rfl
  | false =>
    have hf := N1i ho hs (by simpa using h)
    have := O1l p hf p.Decls 0 [] rfl (by unfold LL; simp only [List.length_nil]; omega)
    rw [show ((0 : Nat) : Int) = 0 from rfl] at this
    rw [if_neg (by simp), this]
    rfl
theorem P1l {d : E0} (h : Mw d) (hb : 100 * d.bulk ≤ LL) : Ah d = some (Z10 d) := by
  have h1 := R15 h
  have h2 := La _ h.type
  have h3 := E0.bulk_eq d
  have h4 := Y4 h.init
  rw [Ah, fit (by (try simp only [List.length_append, List.length_cons, List.length_nil]); (try unfold LL at *); omega), fit (by (try simp only [List.length_append, List.length_cons, List.length_nil]); (try unfold LL at *); omega), Ej _ h.type, ob, fit (by (try simp only [List.length_append, List.length_cons, List.length_nil]); (try unfold LL at *); omega)]
  unfold Z10 O1a Na
  cases hi : (d.Init != 0) with
  | false =>
    rw [cond_false, if_neg (by simp), Rb, hi, cond_false, if_neg (by simp), fit (by (try simp only [List.length_append, List.length_cons, List.length_nil]); (try unfold LL at *); omega)]
    simp
  | true =>
    rw [cond_true]
    cases hk : (d.TypeV.Kind == 0) with
    | true =>
      have hk' : (d.TypeV.Kind != 0) = false := by unfold bne; rw [hk]; rfl
      rw [if_pos rfl, fit (by (try simp only [List.length_append, List.length_cons, List.length_nil]); (try unfold LL at *); omega), Rb, hi, cond_true, hk', if_neg (by simp), fit (by (try simp only [List.length_append, List.length_cons, List.length_nil]); (try unfold LL at *); omega)]
      simp
    | false =>
      have hk' : (d.TypeV.Kind != 0) = true := by unfold bne; rw [hk]; rfl
      rw [if_neg (by simp), Rb, hi, cond_true, hk', if_pos rfl, fit (by (try simp only [List.length_append, List.length_cons, List.length_nil]); (try unfold LL at *); omega), Pf h.init, ob, fit (by (try simp only [List.length_append, List.length_cons, List.length_nil]); (try unfold LL at *); omega), fit (by (try simp only [List.length_append, List.length_cons, List.length_nil]); (try unfold LL at *); omega)]
      simp
theorem Q1l (d : E0) (h : Yr d) (hk : d.Kind = 6) (hb0 : d.bulk ≤ 1048576) : ∀ (r : List E0) (k : Nat) (b : Str), d.Vars.drop k = r → b.length + 101 * E0.bulks r + 8000000 * B0.bulks d.Body + 40 * d.Value.bulk + 20 ≤ LL →
    T8 d b k = some (b ++ Gq r ++ B0.lines d.Body [9] ++ [9, 114, 101, 116, 117, 114, 110, 32] ++ d.Value.text ++ [59, 10, 125, 10])
  | [], k, b, hr, hb => by
    have h3 := E0.bulk_eq d
    have h5 := h.value (by rw [hk]; rfl)
    have h6 := Gd _ h.body [9] (by simp only [List.length_cons, List.length_nil]; omega)
    have h7 := Y2 _ h5
    simp only [E0.bulks] at hb
    rw [T8, (K1 hr).1, if_neg (by simp), D1d _ h.body [9] (by simp only [List.length_cons, List.length_nil]; omega), ob, fit (by (try simp only [List.length_append, List.length_cons, List.length_nil]); (try unfold LL at *); omega), fit (by (try simp only [List.length_append, List.length_cons, List.length_nil]); (try unfold LL at *); omega), Yh _ h5, ob, fit (by (try simp only [List.length_append, List.length_cons, List.length_nil]); (try unfold LL at *); omega), fit (by (try simp only [List.length_append, List.length_cons, List.length_nil]); (try unfold LL at *); omega)]
    simp [Gq]
  | x :: r, k, b, hr, hb => by
    obtain ⟨e1, e2, e3, e4, e5⟩ := W1 hr
    have hv := h.vars x e5
    have h2 := Nz hv
    have h3 := E0.bulk_eq x
    have := h.vlen
    simp only [E0.bulks] at hb
    rw [T8, e1, if_pos rfl, fit (by (try simp only [List.length_append, List.length_cons, List.length_nil]); (try unfold LL at *); omega), e2, ob, P1l hv (by omega), ob, fit (by (try simp only [List.length_append, List.length_cons, List.length_nil]); (try unfold LL at *); omega), w1 (by omega), Q1l d h hk hb0 r (k + 1) _ e3 (by (try simp only [List.length_append, List.length_cons, List.length_nil]); omega)]
    simp [Gq]
theorem O1i (d : E0) (h : Yr d) (hk : d.Kind = 6) (hb0 : d.bulk ≤ 1048576) : ∀ (r : List E0) (k : Nat) (b : Str), d.Params.drop k = r → b.length + 100 * E0.bulks r + 64 * d.TypeV.bulk + 101 * E0.bulks d.Vars + 8000000 * B0.bulks d.Body + 40 * d.Value.bulk + 40 ≤ LL →
    U8 d b k = some (b ++ Zv (k == 0) r ++ [41, 58, 32] ++ d.TypeV.text ++ [32, 123, 10] ++ Gq d.Vars ++ B0.lines d.Body [9] ++ [9, 114, 101, 116, 117, 114, 110, 32] ++ d.Value.text ++ [59, 10, 125, 10])
  | [], k, b, hr, hb => by
    have h4 := La _ h.self.type
    simp only [E0.bulks] at hb
    have := Q1l d h hk hb0 d.Vars 0 (b ++ [41, 58, 32] ++ d.TypeV.text ++ [32, 123, 10]) rfl (by (try simp only [List.length_append, List.length_cons, List.length_nil]); omega)
    rw [show ((0 : Nat) : Int) = 0 from rfl] at this
    rw [U8, (K1 hr).1, if_neg (by simp), fit (by (try simp only [List.length_append, List.length_cons, List.length_nil]); (try unfold LL at *); omega), Ej _ h.self.type, ob, fit (by (try simp only [List.length_append, List.length_cons, List.length_nil]); (try unfold LL at *); omega), fit (by (try simp only [List.length_append, List.length_cons, List.length_nil]); (try unfold LL at *); omega), this]
    simp [Zv]
  | x :: r, k, b, hr, hb => by
    obtain ⟨e1, e2, e3, e4, e5⟩ := W1 hr
    have hv := h.params x e5
    have h2 := La _ hv.type
    have h3 := E0.bulk_eq x
    have := h.plen
    simp only [E0.bulks] at hb
    rw [U8, e1, if_pos rfl]
    cases k with
    | zero =>
      rw [if_neg (by simp), Be, e2, ob, fit (by (try simp only [List.length_append, List.length_cons, List.length_nil]); (try unfold LL at *); omega), fit (by (try simp only [List.length_append, List.length_cons, List.length_nil]); (try unfold LL at *); omega), ob, Ej _ hv.type, ob, fit (by (try simp only [List.length_append, List.length_cons, List.length_nil]); (try unfold LL at *); omega), w1 (by omega), O1i d h hk hb0 r 1 _ e3 (by (try simp only [List.length_append, List.length_cons, List.length_nil]); omega)]
      simp [Zv, Na]
    | succ k =>
      rw [if_pos (decide_eq_true (by omega)), fit (by (try simp only [List.length_append, List.length_cons, List.length_nil]); (try unfold LL at *); omega), Be, e2, ob, fit (by (try simp only [List.length_append, List.length_cons, List.length_nil]); (try unfold LL at *); omega), fit (by (try simp only [List.length_append, List.length_cons, List.length_nil]); (try unfold LL at *); omega), ob, Ej _ hv.type, ob, fit (by (try simp only [List.length_append, List.length_cons, List.length_nil]); (try unfold LL at *); omega), w1 (by omega), O1i d h hk hb0 r (k + 1 + 1) _ e3 (by (try simp only [List.length_append, List.length_cons, List.length_nil]); omega)]
      simp [Zv, Na]
theorem E1t {d : E0} (h : Yr d) (hk : d.Kind = 6) (hb0 : d.bulk ≤ 1048576) : Il d = some (B13 d) := by
  have h3 := E0.bulk_eq d
  have := O1i d h hk hb0 d.Params 0 ([102, 117, 110, 99, 32] ++ d.Name ++ [40]) rfl (by unfold LL; simp only [List.length_append, List.length_cons, List.length_nil]; omega)
  rw [show ((0 : Nat) : Int) = 0 from rfl, show ((0 : Nat) == 0) = true from rfl] at this
  rw [Il, fit (by unfold LL; omega), fit (by unfold LL; simp only [List.length_append, List.length_cons, List.length_nil]; omega), this]
  unfold B13
  simp
theorem R1l (p : L0) (h : T1n p) : ∀ (r : List E0) (k : Nat) (b : Str), p.Decls.drop k = r → b.length + 8000000 * E0.bulks r + 8000000 * B0.bulks p.Body + 20 ≤ LL →
    Pa p b k = some (b ++ Ou r ++ [98, 101, 103, 105, 110, 10] ++ B0.lines p.Body [9] ++ [101, 110, 100, 10])
  | [], k, b, hr, hb => by
    have h0 := h.small
    have h6 := Gd _ h.body [9] (by simp only [List.length_cons, List.length_nil]; omega)
    simp only [E0.bulks] at hb
    rw [Pa, (K1 hr).1, if_neg (by simp), fit (by (try simp only [List.length_append, List.length_cons, List.length_nil]); (try unfold LL at *); omega), D1d _ h.body [9] (by simp only [List.length_cons, List.length_nil]; omega), ob, fit (by (try simp only [List.length_append, List.length_cons, List.length_nil]); (try unfold LL at *); omega), fit (by (try simp only [List.length_append, List.length_cons, List.length_nil]); (try unfold LL at *); omega)]
    simp [Ou]
  | d :: r, k, b, hr, hb => by
    obtain ⟨e1, e2, e3, e4, e5⟩ := W1 hr
    have h0 := h.small
    have hx := h.decls.mem e5
    have hxb : d.bulk ≤ 1048576 := by have := E0.bulk_mem e5; omega
    have hT := F1d hx hxb
    have hlen := h.decls.ok.len
    have h2 := La _ hx.self.type
    have h3 := E0.bulk_eq d
    have hv := Nz hx.self
    simp only [E0.bulks] at hb
    have fin : Pa p (b ++ Ec d) (IntKind.i64.wrap ((k : Int) + 1)) = some (b ++ Ou (d :: r) ++ [98, 101, 103, 105, 110, 10] ++ B0.lines p.Body [9] ++ [101, 110, 100, 10]) := by
      rw [w1 (by omega), R1l p h r (k + 1) _ e3 (by (try simp only [List.length_append, List.length_cons, List.length_nil]); omega)]
      simp [Ou]
    rw [← fin, Pa, e1, if_pos rfl, e2, ob]
    rcases kinds hx with hk | hk | hk | hk | hk | hk | hk
    · have et : Ec d = [116, 121, 112, 101, 32] ++ d.Name ++ [32, 61, 32] ++ d.TypeV.text ++ [59, 10] := by unfold Ec; rw [hk]; rfl
      rw [if_pos (by rw [hk]; simp), fit (by (try simp only [List.length_append, List.length_cons, List.length_nil]); (try unfold LL at *); omega), fit (by (try simp only [List.length_append, List.length_cons, List.length_nil]); (try unfold LL at *); omega), fit (by (try simp only [List.length_append, List.length_cons, List.length_nil]); (try unfold LL at *); omega), Ej _ hx.self.type, ob, fit (by (try simp only [List.length_append, List.length_cons, List.length_nil]); (try unfold LL at *); omega), fit (by (try simp only [List.length_append, List.length_cons, List.length_nil]); (try unfold LL at *); omega), B8, if_neg (by rw [hk]; simp), C8, if_neg (by rw [hk]; simp), D8, if_neg (by rw [hk]; simp), E8, if_neg (by rw [hk]; simp), F8, if_neg (by rw [hk]; simp), G8, if_neg (by rw [hk]; simp), et]
      congr 1; simp
    · have et : Ec d = [115, 101, 99, 114, 101, 116, 32] ++ (d.Name ++ [58, 32] ++ d.TypeV.text) ++ [59, 10] := by unfold Ec; rw [hk]; rfl
      rw [if_neg (by rw [hk]; simp), B8, if_pos (by rw [hk]; simp), fit (by (try simp only [List.length_append, List.length_cons, List.length_nil]); (try unfold LL at *); omega), fit (by (try simp only [List.length_append, List.length_cons, List.length_nil]); (try unfold LL at *); omega), fit (by (try simp only [List.length_append, List.length_cons, List.length_nil]); (try unfold LL at *); omega), Ej _ hx.self.type, ob, fit (by (try simp only [List.length_append, List.length_cons, List.length_nil]); (try unfold LL at *); omega), fit (by (try simp only [List.length_append, List.length_cons, List.length_nil]); (try unfold LL at *); omega), C8, if_neg (by rw [hk]; simp), D8, if_neg (by rw [hk]; simp), E8, if_neg (by rw [hk]; simp), F8, if_neg (by rw [hk]; simp), G8, if_neg (by rw [hk]; simp), et]
      congr 1; simp
    · have et : Ec d = [112, 117, 98, 108, 105, 99, 32] ++ (d.Name ++ [58, 32] ++ d.TypeV.text) ++ [59, 10] := by unfold Ec; rw [hk]; rfl
      rw [if_neg (by rw [hk]; simp), B8, if_neg (by rw [hk]; simp), C8, if_pos (by rw [hk]; simp), fit (by (try simp only [List.length_append, List.length_cons, List.length_nil]); (try unfold LL at *); omega), fit (by (try simp only [List.length_append, List.length_cons, List.length_nil]); (try unfold LL at *); omega), fit (by (try simp only [List.length_append, List.length_cons, List.length_nil]); (try unfold LL at *); omega), Ej _ hx.self.type, ob, fit (by (try simp only [List.length_append, List.length_cons, List.length_nil]); (try unfold LL at *); omega), fit (by (try simp only [List.length_append, List.length_cons, List.length_nil]); (try unfold LL at *); omega), D8, if_neg (by rw [hk]; simp), E8, if_neg (by rw [hk]; simp), F8, if_neg (by rw [hk]; simp), G8, if_neg (by rw [hk]; simp), et]
      congr 1; simp
    · have et : Ec d = [114, 97, 110, 100, 111, 109, 32] ++ (d.Name ++ [58, 32] ++ d.TypeV.text) ++ [59, 10] := by unfold Ec; rw [hk]; rfl
      rw [if_neg (by rw [hk]; simp), B8, if_neg (by rw [hk]; simp), C8, if_neg (by rw [hk]; simp), D8, if_pos (by rw [hk]; simp), fit (by (try simp only [List.length_append, List.length_cons, List.length_nil]); (try unfold LL at *); omega), fit (by (try simp only [List.length_append, List.length_cons, List.length_nil]); (try unfold LL at *); omega), fit (by (try simp only [List.length_append, List.length_cons, List.length_nil]); (try unfold LL at *); omega), Ej _ hx.self.type, ob, fit (by (try simp only [List.length_append, List.length_cons, List.length_nil]); (try unfold LL at *); omega), fit (by (try simp only [List.length_append, List.length_cons, List.length_nil]); (try unfold LL at *); omega), E8, if_neg (by rw [hk]; simp), F8, if_neg (by rw [hk]; simp), G8, if_neg (by rw [hk]; simp), et]
      congr 1; simp
    · have et : Ec d = Z10 d := by unfold Ec; rw [hk]; rfl
      rw [if_neg (by rw [hk]; simp), B8, if_neg (by rw [hk]; simp), C8, if_neg (by rw [hk]; simp), D8, if_neg (by rw [hk]; simp), E8, if_pos (by rw [hk]; simp), P1l hx.self (by omega), ob, fit (by omega), F8, if_neg (by rw [hk]; simp), G8, if_neg (by rw [hk]; simp), et]
    · have h5 := hx.value (by rw [hk]; rfl)
      have h6 := Y2 _ h5
      have et : Ec d = [104, 97, 116, 99, 104, 32] ++ (d.Name ++ [58, 32] ++ d.TypeV.text) ++ [32, 61, 32] ++ d.Value.text ++ [59, 10] := by unfold Ec; rw [hk]; rfl
      rw [if_neg (by rw [hk]; simp), B8, if_neg (by rw [hk]; simp), C8, if_neg (by rw [hk]; simp), D8, if_neg (by rw [hk]; simp), E8, if_neg (by rw [hk]; simp), F8, if_pos (by rw [hk]; simp), fit (by (try simp only [List.length_append, List.length_cons, List.length_nil]); (try unfold LL at *); omega), fit (by (try simp only [List.length_append, List.length_cons, List.length_nil]); (try unfold LL at *); omega), fit (by (try simp only [List.length_append, List.length_cons, List.length_nil]); (try unfold LL at *); omega), Ej _ hx.self.type, ob, fit (by (try simp only [List.length_append, List.length_cons, List.length_nil]); (try unfold LL at *); omega), fit (by (try simp only [List.length_append, List.length_cons, List.length_nil]); (try unfold LL at *); omega), Yh _ h5, ob, fit (by (try simp only [List.length_append, List.length_cons, List.length_nil]); (try unfold LL at *); omega), fit (by (try simp only [List.length_append, List.length_cons, List.length_nil]); (try unfold LL at *); omega), G8, if_neg (by rw [hk]; simp), et]
      congr 1; simp
    · have et : Ec d = B13 d := by unfold Ec; rw [hk]; rfl
      have h7 := L1i hx hk hxb
      rw [if_neg (by rw [hk]; simp), B8, if_neg (by rw [hk]; simp), C8, if_neg (by rw [hk]; simp), D8, if_neg (by rw [hk]; simp), E8, if_neg (by rw [hk]; simp), F8, if_neg (by rw [hk]; simp), G8, if_pos (by rw [hk]; simp), E1t hx hk hxb, ob, fit (by omega), et]
theorem A1q (p : L0) (ho : OkP p) (hs : E0.bulks p.Decls + B0.bulks p.Body ≤ 1048576) : Ur p = some (P1a p) := by
  unfold Ur P1a
  rw [W1p p ho, ob]
  cases h : Nu p != 0 with
  | true => rfl
  | false =>
    have hf := N1i ho hs (by simpa using h)
    have := R1l p hf p.Decls 0 [] rfl (by unfold LL; simp only [List.length_nil]; omega)
    rw [show ((0 : Nat) : Int) = 0 from rfl] at this
    rw [if_neg (by simp), Ky, this, ob, I1p, ob]
    rfl
theorem G1d {p : L0} (h : p.bulk ≤ 1048576) : E0.bulks p.Decls + B0.bulks p.Body ≤ 1048576 := by
  cases p
  simp only [L0.bulk] at h
  simp only; omega
theorem V18 (p : L0) (h : p.bulk ≤ 1048576) (hk : Sj = some true) : Ek p = some true := by
  unfold Ek
  obtain ⟨f, hf⟩ := X1p p (J1i h) 1200
  rw [hk, ob, if_neg (by simp), hf, ob]
  cases f with
  | false => rfl
  | true =>
    rw [if_neg (by simp), E1s p (J1i h) (G1d h), ob, A1q p (J1i h) (G1d h), ob]
    simp
end Go.Proofs.YtmilgoloagbmpaaGreatDoor

namespace Go.Proofs.YtmilgoloagbmpaaGreatDoor
open Go.Am
set_option maxRecDepth 100000
set_option maxHeartbeats 4000000
theorem W18 : Sj = some true := V1b 200 _ (by kernel_rfl)
end Go.Proofs.YtmilgoloagbmpaaGreatDoor

