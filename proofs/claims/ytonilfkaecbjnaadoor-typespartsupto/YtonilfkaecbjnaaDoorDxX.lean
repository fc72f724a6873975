/- Functions of the library, as the printed texts name them. -/
import Derived.Test.YtonilfkaecbjnaaDoorDrT
import Derived.Test.YtonilfkaecbjnaaDoorAmV
import Derived.Test.YtonilfkaecbjnaaDoorShelf
set_option linter.unusedVariables false
namespace Go.Proofs.YtonilfkaecbjnaaDoor
open Go.Am

def X_Contains (s t : Str) : Option Bool := if decide (s.length < 4294967281) = true then some (Lib.contains s t) else none
theorem X_Contains_ok {s t : Str} {res : Bool} (hh : X_Contains s t = some res) : ACall C 158 [.d (.str s), .d (.str t)] [] (fun x H' => H' = [] ∧ x = .d (.bool res)) := by
  obtain ⟨hs, hh⟩ := asrt_some hh
  cases hh
  refine ACall.ofBelow (fnOk_of Tryd.func158 rfl rfl) fun M G w vs hg hgl hl hr => ?_
  obtain ⟨h0, _⟩ := args_str hl hr (i := 0) rfl
  obtain ⟨h1, _⟩ := args_str hl hr (i := 1) rfl
  obtain rfl := arr2 hl.symm h0 h1
  obtain ⟨m, hm⟩ := hgl.gp
  refine ⟨.bool (Lib.contains s t), fun _ _ => .d .bool, (Tryd.strings_Contains ⟨s.toArray⟩ ⟨t.toArray⟩ m w (by rw [size_mk]; exact hs) (hg _ _ hm).2).mono ?_⟩
  rintro e w' ⟨he, rfl⟩
  exact ⟨by simpa using he, .refl _ _⟩

def X_LastIndex (s t : Str) : Option Int := if decide (s.length < 4611686018427387904) = true then some (Lib.lastIndex s t) else none
theorem X_LastIndex_ok {s t : Str} {res : Int} (hh : X_LastIndex s t = some res) : ACall C 37 [.d (.str s), .d (.str t)] [] (fun x H' => H' = [] ∧ x = .d (.int .i64 res)) := by
  obtain ⟨hs, hh⟩ := asrt_some hh
  cases hh
  refine ACall.ofBelow (fnOk_of Tryd.func37 rfl rfl) fun M G w vs hg hgl hl hr => ?_
  obtain ⟨h0, _⟩ := args_str hl hr (i := 0) rfl
  obtain ⟨h1, _⟩ := args_str hl hr (i := 1) rfl
  obtain rfl := arr2 hl.symm h0 h1
  refine ⟨.int .i64 (Lib.lastIndex s t), fun _ _ => .d (.int ?_), (Tryd.strings_LastIndex ⟨s.toArray⟩ ⟨t.toArray⟩ (by rw [size_mk]; exact hs) w).mono ?_⟩
  · have h1 : ∀ k, -1 ≤ Lib.lastOcc s t k ∧ Lib.lastOcc s t k ≤ k := fun k => by
      rcases Lib.lastOcc_spec s t k with ⟨h, _⟩ | ⟨i, h, h', _⟩ <;> omega
    rw [inK_i64]
    unfold Lib.lastIndex
    have := h1 (s.length - t.length + 1)
    split <;> omega
  · rintro e w' ⟨he, rfl⟩
    exact ⟨by simpa using he, .refl _ _⟩

def X_Itoa (n : Int) : Option Str := if decide (0 ≤ n ∧ n < 100) = true then some (Lib.decDigits n.toNat) else none
theorem X_Itoa_ok {n : Int} {res : Str} (hh : X_Itoa n = some res) : ACall C 99 [.d (.int .i64 n)] [] (fun x H' => H' = [] ∧ x = .d (.str res)) := by
  obtain ⟨hs, hh⟩ := asrt_some hh
  cases hh
  obtain ⟨k, rfl⟩ : ∃ k : Nat, n = k := ⟨n.toNat, by omega⟩
  have hn : k < 100 := by omega
  refine ACall.ofBelow (fnOk_of Tryd.func99 rfl rfl) fun M G w vs hg hgl hl hr => ?_
  obtain ⟨h0, _⟩ := args_int hl hr (i := 0) rfl
  obtain rfl := arr1 hl.symm h0
  refine ⟨.string ⟨(Lib.decDigits k).toArray⟩, fun _ _ => .d (.str ?_), (Tryd.strconv_Itoa_small k hn w).mono ?_⟩
  · unfold maxLen
    have h2 : ∀ k < 10, (Lib.decDigits k).length = 1 := fun k hk => by rw [Lib.decDigits, dif_pos hk]; rfl
    show (Lib.decDigits k).length ≤ _
    rw [Lib.decDigits]
    split
    · simp
    · rw [List.length_append, h2 _ (by omega)]; simp
  · rintro e w' ⟨he, rfl⟩
    exact ⟨he, .refl _ _⟩

def X_Clone (s : Str) : Option Str := if decide (s.length ≤ 281474976710656) = true then some s else none
theorem X_Clone_ok {s : Str} {res : Str} (hh : X_Clone s = some res) : ACall C 100 [.d (.str s)] [] (fun x H' => H' = [] ∧ x = .d (.str res)) := by
  obtain ⟨hs, hh⟩ := asrt_some hh
  cases hh
  refine ACall.ofBelow (fnOk_of Tryd.func100 rfl rfl) fun M G w vs hg hgl hl hr => ?_
  obtain ⟨h0, hm⟩ := args_str hl hr (i := 0) rfl
  obtain rfl := arr1 hl.symm h0
  refine ⟨.string ⟨s.toArray⟩, fun _ _ => .d (.str hm), (Tryd.stringslite_Clone ⟨s.toArray⟩ w (by rw [size_mk]; exact hs)).mono ?_⟩
  rintro e w' ⟨he, hb⟩
  exact ⟨he, hb⟩

def X_Itoa_F (n : Int) : Option Str := if decide (0 ≤ n ∧ n < 100) = true then some (if n.toNat < 10 then [UInt8.ofNat (48 + n.toNat)] else [UInt8.ofNat (48 + n.toNat / 10), UInt8.ofNat (48 + n.toNat % 10)]) else none
theorem X_Itoa_le (n : Int) : Le (X_Itoa_F n) (X_Itoa n) := by
  unfold X_Itoa_F X_Itoa
  by_cases h : 0 ≤ n ∧ n < 100
  · rw [if_pos (decide_eq_true h), if_pos (decide_eq_true h)]
    obtain ⟨k, rfl⟩ : ∃ k : Nat, n = k := ⟨n.toNat, by omega⟩
    have hk : k < 100 := by omega
    have : ∀ k < 100, (if k < 10 then [UInt8.ofNat (48 + k)] else [UInt8.ofNat (48 + k / 10), UInt8.ofNat (48 + k % 10)]) = Lib.decDigits k := by
      intro k hk
      rw [Lib.decDigits]
      split
      · rfl
      · rename_i h
        rw [Lib.decDigits, dif_pos (by omega)]
        rfl
    rw [show (k : Int).toNat = k from rfl, this k hk]
    exact Le.rfl
  · rw [if_neg (by simpa using h)]
    exact Le.none
end Go.Proofs.YtonilfkaecbjnaaDoor
