/- Functions of the library, as the printed texts name them. Printed by mkseat.py. -/
import Derived.Test.YtmilgoloagbmpaaGreatDoorDrT
import Derived.Test.YtmilgoloagbmpaaGreatDoorBdD
import Derived.Lib.ItoaNum
import Derived.Lib.AppendIntMem
set_option linter.unusedVariables false
set_option linter.unusedSimpArgs false
namespace Go.Proofs.YtmilgoloagbmpaaGreatDoor
open Go.Am
def X_Contains (s t : Str) : Option Bool := if decide (s.length < 4294967281) = true then some (Lib.contains s t) else none
theorem X_Contains_ok {s t : Str} {res : Bool} (hh : X_Contains s t = some res) : ACall C 184 [.d (.str s), .d (.str t)] [] (fun x H' => H' = [] ∧ x = .d (.bool res)) := by
  obtain ⟨hs, hh⟩ := asrt_some hh
  cases hh
  refine ACall.ofBelow (fnOk_of Tryz.func184 rfl rfl) fun M G w vs hg hgl hl hr => ?_
  obtain ⟨h0, _⟩ := args_str hl hr (i := 0) rfl
  obtain ⟨h1, _⟩ := args_str hl hr (i := 1) rfl
  obtain rfl := arr2 hl.symm h0 h1
  obtain ⟨⟨m, hm⟩, _⟩ := hgl.gp
  refine ⟨.bool (Lib.contains s t), fun _ _ => .d .bool, (Tryz.strings_Contains ⟨s.toArray⟩ ⟨t.toArray⟩ m w (by rw [size_mk]; exact hs) (hg _ _ hm).2).mono ?_⟩
  rintro e w' ⟨he, rfl⟩
  exact ⟨by simpa using he, .refl _ _⟩

theorem decDigits_len : ∀ (k u : Nat), u < 10 ^ (k + 1) → (Lib.decDigits u).length ≤ k + 1
  | 0, u, h => by rw [Lib.decDigits, dif_pos (by simpa using h)]; simp
  | k + 1, u, h => by
    rw [Lib.decDigits]
    split
    · simp
    · rw [List.length_append]
      have := decDigits_len k (u / 10) (by rw [Nat.div_lt_iff_lt_mul (by decide)]; rw [Nat.pow_succ] at h; exact h)
      simp; omega
def X_Itoa (n : Int) : Option Str := if decide (-1000000000000000000 < n ∧ n < 1000000000000000000) = true then some (Lib.itoa n) else none
theorem itoa_len {n : Int} (h : -1000000000000000000 < n ∧ n < 1000000000000000000) : (Lib.itoa n).length ≤ 19 := by
  unfold Lib.itoa
  split
  · have := decDigits_len 17 n.natAbs (by omega)
    simp; omega
  · have := decDigits_len 17 n.toNat (by omega)
    omega
theorem X_Itoa_ok {n : Int} {res : Str} (hh : X_Itoa n = some res) : ACall C 90 [.d (.int .i64 n)] [] (fun x H' => H' = [] ∧ x = .d (.str res)) := by
  obtain ⟨hs, hh⟩ := asrt_some hh
  cases hh
  refine ACall.ofBelow (fnOk_of Tryz.func90 rfl rfl) fun M G w vs hg hgl hl hr => ?_
  obtain ⟨h0, _⟩ := args_int hl hr (i := 0) rfl
  obtain rfl := arr1 hl.symm h0
  obtain ⟨_, _, htab⟩ := hgl.gp
  refine ⟨.string ⟨(Lib.itoa n).toArray⟩, fun _ _ => .d (.str ?_), (Tryz.strconv_Itoa n (by omega) (by omega) w htab).mono ?_⟩
  · have := itoa_len hs
    unfold maxLen; omega
  · rintro e w' ⟨he, k, os, rfl⟩
    exact ⟨he, Lib.below_grow _ _ (Nat.le_refl _) _ _⟩
def X_Itoa_F (n : Int) : Option Str := if decide (0 ≤ n ∧ n < 100) = true then some (if n.toNat < 10 then [UInt8.ofNat (48 + n.toNat)] else [UInt8.ofNat (48 + n.toNat / 10), UInt8.ofNat (48 + n.toNat % 10)]) else none
theorem X_Itoa_le (n : Int) : Le (X_Itoa_F n) (X_Itoa n) := by
  unfold X_Itoa_F X_Itoa
  by_cases h : 0 ≤ n ∧ n < 100
  · rw [if_pos (decide_eq_true h), if_pos (decide_eq_true (by omega))]
    obtain ⟨k, rfl⟩ : ∃ k : Nat, n = k := ⟨n.toNat, by omega⟩
    have hk : k < 100 := by omega
    have : ∀ k < 100, (if k < 10 then [UInt8.ofNat (48 + k)] else [UInt8.ofNat (48 + k / 10), UInt8.ofNat (48 + k % 10)]) = Lib.decDigits k := by
      intro k hk
      rw [Lib.decDigits]
      split
      · rfl
      · rename_i h
        rw [Lib.decDigits, dif_pos (by omega)]
        rfl
    rw [show (k : Int).toNat = k from rfl, this k hk]
    unfold Lib.itoa
    rw [if_neg (by omega)]
    exact Le.rfl
  · rw [if_neg (by simpa using h)]
    exact Le.none
theorem zB86 : ∀ w, (Instr.build 86 #[]).run Tryz.prog w = .ok (.agg #[.pointer none, .slice none 0 0]) w := fun w => by kernel_rfl
def X_WriteString_SyntaxPrinter (s b : Str) : Option (Int × Str) := if decide (b.length + s.length ≤ 140737488351231) = true then some ((s.length : Int), b ++ s) else none
theorem X_WriteString_SyntaxPrinter_ok {s b : Str} {res : Int × Str} (hh : X_WriteString_SyntaxPrinter s b = some res) : ACall C 54 [.ref 0 0, .d (.str s)] [.bld 1 86, .buf 5 b] (fun x H' => H' = [.bld 1 86, .buf 5 res.2] ∧ x = .tup [.d (.int .i64 res.1), .d (.nilv .iface)]) := by
  obtain ⟨hs, hh⟩ := asrt_some hh
  cases hh
  exact WriteString_ok (by decide) (by kernel_rfl) hs
def X_BLen_SyntaxPrinter (b : Str) : Option Int := some (b.length : Int)
theorem X_BLen_SyntaxPrinter_ok {b : Str} {res : Int} (hh : X_BLen_SyntaxPrinter b = some res) : ACall C 94 [.ref 0 0] [.bld 1 86, .buf 5 b] (fun x H' => H' = [.bld 1 86, .buf 5 b] ∧ x = .d (.int .i64 res)) := by
  cases hh
  exact Len_ok
def X_BString_SyntaxPrinter (b : Str) : Option Str := some b
theorem X_BString_SyntaxPrinter_ok {b : Str} {res : Str} (hh : X_BString_SyntaxPrinter b = some res) : ACall C 95 [.ref 0 0] [.bld 1 86, .buf 5 b] (fun x H' => H' = [.dead, .dead] ∧ x = .d (.str res)) := by
  cases hh
  exact String_ok
end Go.Proofs.YtmilgoloagbmpaaGreatDoor

