/- A part of the proof of TypecheckErrors. -/
import Derived.Test.YtdkabnfphmmmnaaGreatDoorDgC
import Derived.Test.YtdkabnfphmmmnaaGreatDoorAmB
set_option maxRecDepth 100000
set_option maxHeartbeats 4000000
set_option synthInstance.maxSize 2000
set_option linter.unusedVariables false
namespace Go.Proofs.YtdkabnfphmmmnaaGreatDoor
open Go.Am
def Is (fu : Nat) (s : Str) : Option C0 :=
  some (C0.mk 3 0 s [])
theorem Y1z (fu : Nat) (s : Str) : Le (Is fu s) (Sp s) := by
  unfold Is Sp
  repeat (first | exact Le.rfl | exact V0 _ | refine Le.bind ?_ (fun _ => ?_) | refine Le.ite ?_ ?_)
def Qu (fu : Nat) (n : Int) : Option C0 :=
  some (C0.mk 0 n [] [])
theorem V22 (fu : Nat) (n : Int) : Le (Qu fu n) (Ts n) := by
  unfold Qu Ts
  repeat (first | exact Le.rfl | exact V0 _ | refine Le.bind ?_ (fun _ => ?_) | refine Le.ite ?_ ?_)
def Dx (fu : Nat) (o : Int) (kids : List C0) : Option C0 :=
  some (C0.mk o 0 [] kids)
theorem Z1z (fu : Nat) (o : Int) (kids : List C0) : Le (Dx fu o kids) (Ft o kids) := by
  unfold Dx Ft
  repeat (first | exact Le.rfl | exact V0 _ | refine Le.bind ?_ (fun _ => ?_) | refine Le.ite ?_ ?_)
def Uy (fu : Nat) (k : Int) : Option (Bool × Bool) :=
  some ((bif (decide (k ≥ 0)) then (decide (k ≤ 6)) else false), (bif (k == 5) then true else (k == 6)))
theorem Gl (fu : Nat) (k : Int) : Le (Uy fu k) (Pl k) := by
  unfold Uy Pl
  repeat (first | exact Le.rfl | exact V0 _ | refine Le.bind ?_ (fun _ => ?_) | refine Le.ite ?_ ?_)
def F1 (fu : Nat) (ok : Bool) (syntaxReport : E0) : Option E0 :=
  some (E0.mk syntaxReport.nodes syntaxReport.depth (bif syntaxReport.badForm then true else (!ok)) syntaxReport.badName syntaxReport.badNumber)
theorem O1 (fu : Nat) (ok : Bool) (syntaxReport : E0) : Le (F1 fu ok syntaxReport) (Y0 ok syntaxReport) := by
  unfold F1 Y0
  repeat (first | exact Le.rfl | exact V0 _ | refine Le.bind ?_ (fun _ => ?_) | refine Le.ite ?_ ?_)
def D8 : Nat → (List Str) → (List Str) → Int → Option Bool
  | 0, _, _, _ => none
  | fu + 1, s1, s2, v13 =>
    if (decide (v13 < ((s1).length : Int))) = true then
      idx s1 v13 >>= fun x1 =>
      idx s2 v13 >>= fun x2 =>
      if (!(x1 == x2)) = true then
        some false
      else
        D8 fu s1 s2 (IntKind.i64.wrap (v13 + 1))
    else
      some true
theorem Uz (fu : Nat) : (∀ (s1 : List Str) (s2 : List Str) (v13 : Int), Le (D8 fu s1 s2 v13) (Y1 s1 s2 v13)) := by
  induction fu with
  | zero => exact fun _ _ _ => Le.none
  | succ fu ih =>
    have ih0 := ih
    refine fun s1 s2 v13 => ?_
    · rw [D8, Y1]
      repeat (first | exact Le.rfl | exact ih0 _ _ _ | exact V0 _ | refine Le.bind ?_ (fun _ => ?_) | refine Le.ite ?_ ?_)
theorem Q10 (fu : Nat) (s1 : List Str) (s2 : List Str) (v13 : Int) : Le (D8 fu s1 s2 v13) (Y1 s1 s2 v13) := (Uz fu) s1 s2 v13
def Ee (fu : Nat) (s1 : List Str) (s2 : List Str) : Option Bool :=
  if (((s1).length : Int) != ((s2).length : Int)) = true then
    some false
  else
    D8 fu s1 s2 0
theorem W6 (fu : Nat) (s1 : List Str) (s2 : List Str) : Le (Ee fu s1 s2) (T3 s1 s2) := by
  unfold Ee T3
  repeat (first | exact Le.rfl | exact Q10 fu _ _ _ | exact V0 _ | refine Le.bind ?_ (fun _ => ?_) | refine Le.ite ?_ ?_)
mutual
def Hl : Nat → A0 → A0 → Option Bool
  | 0, _, _ => none
  | fu + 1, a, b =>
    (if (bif (bif (bif (bif (a.Kind == b.Kind) then (a.Low == b.Low) else false) then (a.High == b.High) else false) then (a.Size == b.Size) else false) then (a.Name == b.Name) else false) = true then Ee fu a.Names b.Names else some default) >>= fun x1 =>
    (if (bif (bif (bif (bif (bif (a.Kind == b.Kind) then (a.Low == b.Low) else false) then (a.High == b.High) else false) then (a.Size == b.Size) else false) then (a.Name == b.Name) else false) then x1 else false) = true then D4 fu a.Of b.Of else some default) >>= fun x2 =>
    some (bif (bif (bif (bif (bif (bif (a.Kind == b.Kind) then (a.Low == b.Low) else false) then (a.High == b.High) else false) then (a.Size == b.Size) else false) then (a.Name == b.Name) else false) then x1 else false) then x2 else false)
def D4 : Nat → (List A0) → (List A0) → Option Bool
  | 0, _, _ => none
  | fu + 1, s1, s2 =>
    if (((s1).length : Int) != ((s2).length : Int)) = true then
      some false
    else
      T2 fu s1 s2 0
def T2 : Nat → (List A0) → (List A0) → Int → Option Bool
  | 0, _, _, _ => none
  | fu + 1, s1, s2, v17 =>
    if (decide (v17 < ((s1).length : Int))) = true then
      idx s1 v17 >>= fun x1 =>
      idx s2 v17 >>= fun x2 =>
      Hl fu x1 x2 >>= fun x3 =>
      if (!x3) = true then
        some false
      else
        T2 fu s1 s2 (IntKind.i64.wrap (v17 + 1))
    else
      some true
end
theorem Ot (fu : Nat) : (∀ (a : A0) (b : A0), Le (Hl fu a b) (O7 a b)) ∧ (∀ (s1 : List A0) (s2 : List A0), Le (D4 fu s1 s2) (P1 s1 s2)) ∧ (∀ (s1 : List A0) (s2 : List A0) (v17 : Int), Le (T2 fu s1 s2 v17) (D1 s1 s2 v17)) := by
  induction fu with
  | zero => exact ⟨fun _ _ => Le.none, fun _ _ => Le.none, fun _ _ _ => Le.none⟩
  | succ fu ih =>
    obtain ⟨ih0, ih1, ih2⟩ := ih
    refine ⟨fun a b => ?_, fun s1 s2 => ?_, fun s1 s2 v17 => ?_⟩
    · rw [Hl, O7]
      repeat (first | exact Le.rfl | exact ih0 _ _ | exact ih1 _ _ | exact ih2 _ _ _ | exact W6 fu _ _ | exact V0 _ | refine Le.bind ?_ (fun _ => ?_) | refine Le.ite ?_ ?_)
    · rw [D4, P1]
      repeat (first | exact Le.rfl | exact ih0 _ _ | exact ih1 _ _ | exact ih2 _ _ _ | exact W6 fu _ _ | exact V0 _ | refine Le.bind ?_ (fun _ => ?_) | refine Le.ite ?_ ?_)
    · rw [T2, D1]
      repeat (first | exact Le.rfl | exact ih0 _ _ | exact ih1 _ _ | exact ih2 _ _ _ | exact W6 fu _ _ | exact V0 _ | refine Le.bind ?_ (fun _ => ?_) | refine Le.ite ?_ ?_)
theorem Lj (fu : Nat) (a : A0) (b : A0) : Le (Hl fu a b) (O7 a b) := (Ot fu).1 a b
theorem S17 (fu : Nat) (s1 : List A0) (s2 : List A0) : Le (D4 fu s1 s2) (P1 s1 s2) := (Ot fu).2.1 s1 s2
theorem V14 (fu : Nat) (s1 : List A0) (s2 : List A0) (v17 : Int) : Le (T2 fu s1 s2 v17) (D1 s1 s2 v17) := (Ot fu).2.2 s1 s2 v17
def Di (fu : Nat) (d : Int) (syntaxReport : E0) : Option E0 :=
  some (E0.mk syntaxReport.nodes (max syntaxReport.depth d) syntaxReport.badForm syntaxReport.badName syntaxReport.badNumber)
theorem N2 (fu : Nat) (d : Int) (syntaxReport : E0) : Le (Di fu d syntaxReport) (N8 d syntaxReport) := by
  unfold Di N8
  repeat (first | exact Le.rfl | exact V0 _ | refine Le.bind ?_ (fun _ => ?_) | refine Le.ite ?_ ?_)
def N5 (fu : Nat) (n : Int) (low : Int) (high : Int) : Option Bool :=
  some (bif (decide (n ≥ low)) then (decide (n ≤ high)) else false)
theorem H3 (fu : Nat) (n : Int) (low : Int) (high : Int) : Le (N5 fu n low high) (T4 n low high) := by
  unfold N5 T4
  repeat (first | exact Le.rfl | exact V0 _ | refine Le.bind ?_ (fun _ => ?_) | refine Le.ite ?_ ?_)
def W3 (fu : Nat) (ok : Bool) (syntaxReport : E0) : Option E0 :=
  some (E0.mk syntaxReport.nodes syntaxReport.depth syntaxReport.badForm syntaxReport.badName (bif syntaxReport.badNumber then true else (!ok)))
theorem X1 (fu : Nat) (ok : Bool) (syntaxReport : E0) : Le (W3 fu ok syntaxReport) (J2 ok syntaxReport) := by
  unfold W3 J2
  repeat (first | exact Le.rfl | exact V0 _ | refine Le.bind ?_ (fun _ => ?_) | refine Le.ite ?_ ?_)
def R10 (fu : Nat) (c : Int) : Option Bool :=
  some (bif (decide (c ≥ 97)) then (decide (c ≤ 122)) else false)
theorem Q1q (fu : Nat) (c : Int) : Le (R10 fu c) (Gn c) := by
  unfold R10 Gn
  repeat (first | exact Le.rfl | exact V0 _ | refine Le.bind ?_ (fun _ => ?_) | refine Le.ite ?_ ?_)
def X13 (fu : Nat) (c : Int) : Option Bool :=
  some (bif (decide (c ≥ 48)) then (decide (c ≤ 57)) else false)
theorem V1s (fu : Nat) (c : Int) : Le (X13 fu c) (Kp c) := by
  unfold X13 Kp
  repeat (first | exact Le.rfl | exact V0 _ | refine Le.bind ?_ (fun _ => ?_) | refine Le.ite ?_ ?_)
def Km : Nat → Str → Int → Option Bool
  | 0, _, _ => none
  | fu + 1, s, v6 =>
    if (decide (v6 < ((s).length : Int))) = true then
      idx s v6 >>= fun x1 =>
      R10 fu (x1.toNat : Int) >>= fun x2 =>
      (if ((!x2) && (!(v6 == 0))) = true then idx s v6 else some default) >>= fun x3 =>
      (if ((!x2) && (!(v6 == 0))) = true then X13 fu (x3.toNat : Int) else some default) >>= fun x4 =>
      if (bif (!x2) then (bif (v6 == 0) then true else (!x4)) else false) = true then
        some false
      else
        Km fu s (IntKind.i64.wrap (v6 + 1))
    else
      some (!(s == []))
theorem J1m (fu : Nat) : (∀ (s : Str) (v6 : Int), Le (Km fu s v6) (O8 s v6)) := by
  induction fu with
  | zero => exact fun _ _ => Le.none
  | succ fu ih =>
    have ih0 := ih
    refine fun s v6 => ?_
    · rw [Km, O8]
      repeat (first | exact Le.rfl | exact ih0 _ _ | exact Q1q fu _ | exact V1s fu _ | exact V0 _ | refine Le.bind ?_ (fun _ => ?_) | refine Le.ite ?_ ?_)
theorem M1o (fu : Nat) (s : Str) (v6 : Int) : Le (Km fu s v6) (O8 s v6) := (J1m fu) s v6
def W16 (fu : Nat) (s : Str) : Option Bool :=
  Km fu s 0
theorem F1v (fu : Nat) (s : Str) : Le (W16 fu s) (Rr s) := by
  unfold W16 Rr
  repeat (first | exact Le.rfl | exact M1o fu _ _ | exact V0 _ | refine Le.bind ?_ (fun _ => ?_) | refine Le.ite ?_ ?_)
def S10 (fu : Nat) (Yg : Str) : Option Bool :=
  (if (!(Yg == [])) = true then Et Yg [32] else some default) >>= fun x1 =>
  if (!(bif (!(Yg == [])) then (!x1) else false) || (decide (1 + Yg.length ≤ maxLen))) = true then
    if (!(bif (!(Yg == [])) then (!x1) else false) || (decide (([32] ++ Yg).length + 1 ≤ maxLen))) = true then
      (if (bif (!(Yg == [])) then (!x1) else false) = true then Et [32, 116, 121, 112, 101, 32, 115, 101, 99, 114, 101, 116, 32, 112, 117, 98, 108, 105, 99, 32, 114, 97, 110, 100, 111, 109, 32, 118, 97, 114, 32, 104, 97, 116, 99, 104, 32, 102, 117, 110, 99, 32, 114, 101, 116, 117, 114, 110, 32, 98, 101, 103, 105, 110, 32, 101, 110, 100, 32, 98, 111, 111, 108, 32, 105, 110, 116, 32, 97, 114, 114, 97, 121, 32, 111, 102, 32, 114, 101, 99, 111, 114, 100, 32, 116, 114, 117, 101, 32, 102, 97, 108, 115, 101, 32, 99, 97, 108, 108, 32, 114, 101, 108, 101, 97, 115, 101, 32, 111, 117, 116, 112, 117, 116, 32, 119, 97, 105, 116, 32, 105, 102, 32, 101, 108, 115, 101, 32, 119, 104, 105, 108, 101, 32, 108, 105, 109, 105, 116, 32, 102, 111, 114, 32, 116, 111, 32, 115, 101, 116, 116, 108, 101, 32, 109, 105, 110, 32, 109, 97, 120, 32] (([32] ++ Yg) ++ [32]) else some default) >>= fun x2 =>
      some (bif (bif (!(Yg == [])) then (!x1) else false) then x2 else false)
    else none
  else none
theorem R1q (fu : Nat) (Yg : Str) : Le (S10 fu Yg) (Tj Yg) := by
  unfold S10 Tj
  repeat (first | exact Le.rfl | exact V0 _ | refine Le.bind ?_ (fun _ => ?_) | refine Le.ite ?_ ?_)
def X16 (fu : Nat) (s : Str) : Option Bool :=
  (if (decide (((s).length : Int) ≤ 12)) = true then W16 fu s else some default) >>= fun x1 =>
  (if (bif (decide (((s).length : Int) ≤ 12)) then x1 else false) = true then S10 fu s else some default) >>= fun x2 =>
  some (bif (bif (decide (((s).length : Int) ≤ 12)) then x1 else false) then (!x2) else false)
theorem G1v (fu : Nat) (s : Str) : Le (X16 fu s) (Sr s) := by
  unfold X16 Sr
  repeat (first | exact Le.rfl | exact F1v fu _ | exact R1q fu _ | exact V0 _ | refine Le.bind ?_ (fun _ => ?_) | refine Le.ite ?_ ?_)
def Rv (fu : Nat) (s : Str) : Option Bool :=
  X16 fu s >>= fun x1 =>
  some x1
theorem N1e (fu : Nat) (s : Str) : Le (Rv fu s) (Zi s) := by
  unfold Rv Zi
  repeat (first | exact Le.rfl | exact G1v fu _ | exact V0 _ | refine Le.bind ?_ (fun _ => ?_) | refine Le.ite ?_ ?_)
def Db (fu : Nat) (s : Str) (syntaxReport : E0) : Option E0 :=
  (if (!syntaxReport.badName) = true then Rv fu s else some default) >>= fun x1 =>
  some (E0.mk syntaxReport.nodes syntaxReport.depth syntaxReport.badForm (bif syntaxReport.badName then true else (!x1)) syntaxReport.badNumber)
theorem R1 (fu : Nat) (s : Str) (syntaxReport : E0) : Le (Db fu s syntaxReport) (H5 s syntaxReport) := by
  unfold Db H5
  repeat (first | exact Le.rfl | exact N1e fu _ | exact V0 _ | refine Le.bind ?_ (fun _ => ?_) | refine Le.ite ?_ ?_)
mutual
def Xf : Nat → A0 → Int → E0 → Option E0
  | 0, _, _, _ => none
  | fu + 1, t, depth, syntaxReport =>
    Di fu depth (E0.mk (IntKind.i64.wrap (syntaxReport.nodes + 1)) syntaxReport.depth syntaxReport.badForm syntaxReport.badName syntaxReport.badNumber) >>= fun x1 =>
    F1 fu (bif (decide (t.Kind ≥ 0)) then (decide (t.Kind ≤ 4)) else false) x1 >>= fun x2 =>
    F1 fu (bif (t.Kind == 1) then true else (bif (t.Low == 0) then (t.High == 0) else false)) x2 >>= fun x3 =>
    F1 fu (bif (t.Kind == 2) then true else (t.Size == 0)) x3 >>= fun x4 =>
    F1 fu (bif (t.Kind == 4) then true else (t.Name == [])) x4 >>= fun x5 =>
    F1 fu (bif (t.Kind == 3) then true else (((t.Names).length : Int) == 0)) x5 >>= fun x6 =>
    if (t.Kind == 2) = true then
      F1 fu (((t.Of).length : Int) == 1) x6 >>= fun x7 =>
      N5 fu t.Size 1 32 >>= fun x8 =>
      W3 fu x8 x7 >>= fun x9 =>
      Vb fu t depth x9
    else
      if (t.Kind == 3) = true then
        F1 fu (bif (decide (((t.Of).length : Int) ≥ 1)) then (((t.Of).length : Int) == ((t.Names).length : Int)) else false) x6 >>= fun x14 =>
        W3 fu (decide (((t.Of).length : Int) ≤ 32)) x14 >>= fun x15 =>
        Vb fu t depth x15
      else
        F1 fu (((t.Of).length : Int) == 0) x6 >>= fun x16 =>
        Vb fu t depth x16
def Vb : Nat → A0 → Int → E0 → Option E0
  | 0, _, _, _ => none
  | fu + 1, t, depth, o0 =>
    if (t.Kind == 1) = true then
      N5 fu t.Low (-1048576) 1048576 >>= fun x10 =>
      (if x10 = true then N5 fu t.High t.Low 1048576 else some default) >>= fun x11 =>
      W3 fu (bif x10 then x11 else false) o0 >>= fun x12 =>
      Fg fu t depth x12
    else
      Fg fu t depth o0
def Fg : Nat → A0 → Int → E0 → Option E0
  | 0, _, _, _ => none
  | fu + 1, t, depth, o01 =>
    if (t.Kind == 4) = true then
      Db fu t.Name o01 >>= fun x13 =>
      Gg fu t depth x13
    else
      Gg fu t depth o01
def Gg : Nat → A0 → Int → E0 → Option E0
  | 0, _, _, _ => none
  | fu + 1, t, depth, o02 =>
    Hg fu t depth o02 0
def Hg : Nat → A0 → Int → E0 → Int → Option E0
  | 0, _, _, _, _ => none
  | fu + 1, t, depth, o03, v147 =>
    if (decide (v147 < ((t.Names).length : Int))) = true then
      idx t.Names v147 >>= fun x17 =>
      Db fu x17 o03 >>= fun x18 =>
      Hg fu t depth x18 (IntKind.i64.wrap (v147 + 1))
    else
      Ig fu t depth o03 0
def Ig : Nat → A0 → Int → E0 → Int → Option E0
  | 0, _, _, _, _ => none
  | fu + 1, t, depth, o04, v158 =>
    if (decide (v158 < ((t.Of).length : Int))) = true then
      idx t.Of v158 >>= fun x19 =>
      Xf fu x19 (IntKind.i64.wrap (depth + 1)) o04 >>= fun x20 =>
      Ig fu t depth x20 (IntKind.i64.wrap (v158 + 1))
    else
      some o04
end
theorem Oc (fu : Nat) : (∀ (t : A0) (depth : Int) (syntaxReport : E0), Le (Xf fu t depth syntaxReport) (F5 t depth syntaxReport)) ∧ (∀ (t : A0) (depth : Int) (o0 : E0), Le (Vb fu t depth o0) (T5 t depth o0)) ∧ (∀ (t : A0) (depth : Int) (o01 : E0), Le (Fg fu t depth o01) (U5 t depth o01)) ∧ (∀ (t : A0) (depth : Int) (o02 : E0), Le (Gg fu t depth o02) (B7 t depth o02)) ∧ (∀ (t : A0) (depth : Int) (o03 : E0) (v147 : Int), Le (Hg fu t depth o03 v147) (L4 t depth o03 v147)) ∧ (∀ (t : A0) (depth : Int) (o04 : E0) (v158 : Int), Le (Ig fu t depth o04 v158) (C5 t depth o04 v158)) := by
  induction fu with
  | zero => exact ⟨fun _ _ _ => Le.none, fun _ _ _ => Le.none, fun _ _ _ => Le.none, fun _ _ _ => Le.none, fun _ _ _ _ => Le.none, fun _ _ _ _ => Le.none⟩
  | succ fu ih =>
    obtain ⟨ih0, ih1, ih2, ih3, ih4, ih5⟩ := ih
    refine ⟨fun t depth syntaxReport => ?_, fun t depth o0 => ?_, fun t depth o01 => ?_, fun t depth o02 => ?_, fun t depth o03 v147 => ?_, fun t depth o04 v158 => ?_⟩
    · rw [Xf, F5]
      repeat (first | exact Le.rfl | exact ih0 _ _ _ | exact ih1 _ _ _ | exact ih2 _ _ _ | exact ih3 _ _ _ | exact ih4 _ _ _ _ | exact ih5 _ _ _ _ | exact N2 fu _ _ | exact O1 fu _ _ | exact H3 fu _ _ _ | exact X1 fu _ _ | exact R1 fu _ _ | exact V0 _ | refine Le.bind ?_ (fun _ => ?_) | refine Le.ite ?_ ?_)
    · rw [Vb, T5]
      repeat (first | exact Le.rfl | exact ih0 _ _ _ | exact ih1 _ _ _ | exact ih2 _ _ _ | exact ih3 _ _ _ | exact ih4 _ _ _ _ | exact ih5 _ _ _ _ | exact N2 fu _ _ | exact O1 fu _ _ | exact H3 fu _ _ _ | exact X1 fu _ _ | exact R1 fu _ _ | exact V0 _ | refine Le.bind ?_ (fun _ => ?_) | refine Le.ite ?_ ?_)
    · rw [Fg, U5]
      repeat (first | exact Le.rfl | exact ih0 _ _ _ | exact ih1 _ _ _ | exact ih2 _ _ _ | exact ih3 _ _ _ | exact ih4 _ _ _ _ | exact ih5 _ _ _ _ | exact N2 fu _ _ | exact O1 fu _ _ | exact H3 fu _ _ _ | exact X1 fu _ _ | exact R1 fu _ _ | exact V0 _ | refine Le.bind ?_ (fun _ => ?_) | refine Le.ite ?_ ?_)
    · rw [Gg, B7]
      repeat (first | exact Le.rfl | exact ih0 _ _ _ | exact ih1 _ _ _ | exact ih2 _ _ _ | exact ih3 _ _ _ | exact ih4 _ _ _ _ | exact ih5 _ _ _ _ | exact N2 fu _ _ | exact O1 fu _ _ | exact H3 fu _ _ _ | exact X1 fu _ _ | exact R1 fu _ _ | exact V0 _ | refine Le.bind ?_ (fun _ => ?_) | refine Le.ite ?_ ?_)
    · rw [Hg, L4]
      repeat (first | exact Le.rfl | exact ih0 _ _ _ | exact ih1 _ _ _ | exact ih2 _ _ _ | exact ih3 _ _ _ | exact ih4 _ _ _ _ | exact ih5 _ _ _ _ | exact N2 fu _ _ | exact O1 fu _ _ | exact H3 fu _ _ _ | exact X1 fu _ _ | exact R1 fu _ _ | exact V0 _ | refine Le.bind ?_ (fun _ => ?_) | refine Le.ite ?_ ?_)
    · rw [Ig, C5]
      repeat (first | exact Le.rfl | exact ih0 _ _ _ | exact ih1 _ _ _ | exact ih2 _ _ _ | exact ih3 _ _ _ | exact ih4 _ _ _ _ | exact ih5 _ _ _ _ | exact N2 fu _ _ | exact O1 fu _ _ | exact H3 fu _ _ _ | exact X1 fu _ _ | exact R1 fu _ _ | exact V0 _ | refine Le.bind ?_ (fun _ => ?_) | refine Le.ite ?_ ?_)
theorem Fe (fu : Nat) (t : A0) (depth : Int) (syntaxReport : E0) : Le (Xf fu t depth syntaxReport) (F5 t depth syntaxReport) := (Oc fu).1 t depth syntaxReport
theorem W24 (fu : Nat) (t : A0) (depth : Int) (o0 : E0) : Le (Vb fu t depth o0) (T5 t depth o0) := (Oc fu).2.1 t depth o0
theorem X24 (fu : Nat) (t : A0) (depth : Int) (o01 : E0) : Le (Fg fu t depth o01) (U5 t depth o01) := (Oc fu).2.2.1 t depth o01
theorem Y24 (fu : Nat) (t : A0) (depth : Int) (o02 : E0) : Le (Gg fu t depth o02) (B7 t depth o02) := (Oc fu).2.2.2.1 t depth o02
theorem Z24 (fu : Nat) (t : A0) (depth : Int) (o03 : E0) (v147 : Int) : Le (Hg fu t depth o03 v147) (L4 t depth o03 v147) := (Oc fu).2.2.2.2.1 t depth o03 v147
theorem A25 (fu : Nat) (t : A0) (depth : Int) (o04 : E0) (v158 : Int) : Le (Ig fu t depth o04 v158) (C5 t depth o04 v158) := (Oc fu).2.2.2.2.2 t depth o04 v158
mutual
def Il : Nat → C0 → C0 → Option Bool
  | 0, _, _ => none
  | fu + 1, a, b =>
    (if (bif (bif (a.Op == b.Op) then (a.NV == b.NV) else false) then (a.Name == b.Name) else false) = true then E4 fu a.Kids b.Kids else some default) >>= fun x1 =>
    some (bif (bif (bif (a.Op == b.Op) then (a.NV == b.NV) else false) then (a.Name == b.Name) else false) then x1 else false)
def E4 : Nat → (List C0) → (List C0) → Option Bool
  | 0, _, _ => none
  | fu + 1, s1, s2 =>
    if (((s1).length : Int) != ((s2).length : Int)) = true then
      some false
    else
      U2 fu s1 s2 0
def U2 : Nat → (List C0) → (List C0) → Int → Option Bool
  | 0, _, _, _ => none
  | fu + 1, s1, s2, v17 =>
    if (decide (v17 < ((s1).length : Int))) = true then
      idx s1 v17 >>= fun x1 =>
      idx s2 v17 >>= fun x2 =>
      Il fu x1 x2 >>= fun x3 =>
      if (!x3) = true then
        some false
      else
        U2 fu s1 s2 (IntKind.i64.wrap (v17 + 1))
    else
      some true
end
theorem Pt (fu : Nat) : (∀ (a : C0) (b : C0), Le (Il fu a b) (R6 a b)) ∧ (∀ (s1 : List C0) (s2 : List C0), Le (E4 fu s1 s2) (Q1 s1 s2)) ∧ (∀ (s1 : List C0) (s2 : List C0) (v17 : Int), Le (U2 fu s1 s2 v17) (E1 s1 s2 v17)) := by
  induction fu with
  | zero => exact ⟨fun _ _ => Le.none, fun _ _ => Le.none, fun _ _ _ => Le.none⟩
  | succ fu ih =>
    obtain ⟨ih0, ih1, ih2⟩ := ih
    refine ⟨fun a b => ?_, fun s1 s2 => ?_, fun s1 s2 v17 => ?_⟩
    · rw [Il, R6]
      repeat (first | exact Le.rfl | exact ih0 _ _ | exact ih1 _ _ | exact ih2 _ _ _ | exact V0 _ | refine Le.bind ?_ (fun _ => ?_) | refine Le.ite ?_ ?_)
    · rw [E4, Q1]
      repeat (first | exact Le.rfl | exact ih0 _ _ | exact ih1 _ _ | exact ih2 _ _ _ | exact V0 _ | refine Le.bind ?_ (fun _ => ?_) | refine Le.ite ?_ ?_)
    · rw [U2, E1]
      repeat (first | exact Le.rfl | exact ih0 _ _ | exact ih1 _ _ | exact ih2 _ _ _ | exact V0 _ | refine Le.bind ?_ (fun _ => ?_) | refine Le.ite ?_ ?_)
theorem K1m (fu : Nat) (a : C0) (b : C0) : Le (Il fu a b) (R6 a b) := (Pt fu).1 a b
theorem T17 (fu : Nat) (s1 : List C0) (s2 : List C0) : Le (E4 fu s1 s2) (Q1 s1 s2) := (Pt fu).2.1 s1 s2
theorem W14 (fu : Nat) (s1 : List C0) (s2 : List C0) (v17 : Int) : Le (U2 fu s1 s2 v17) (E1 s1 s2 v17) := (Pt fu).2.2 s1 s2 v17
def Lm (fu : Nat) (op : Int) (v9 : Bool) : Option Int :=
  if v9 = true then
    some 1
  else
    if (op == 5) = true then
      some 2
    else
      if (op == 23) = true then
        some 3
      else
        if (bif (decide (op ≥ 8)) then (decide (op ≤ 22)) else false) = true then
          some 2
        else
          some (-1)
theorem N1o (fu : Nat) (op : Int) (v9 : Bool) : Le (Lm fu op v9) (Ff op v9) := by
  unfold Lm Ff
  repeat (first | exact Le.rfl | exact V0 _ | refine Le.bind ?_ (fun _ => ?_) | refine Le.ite ?_ ?_)
def Si (fu : Nat) (op : Int) (v4 : Bool) : Option Int :=
  if v4 = true then
    some 0
  else
    if (op == 4) = true then
      Lm fu op (op == 4)
    else
      if (op == 6) = true then
        Lm fu op (op == 6)
      else
        Lm fu op (op == 7)
theorem O1o (fu : Nat) (op : Int) (v4 : Bool) : Le (Si fu op v4) (Ec op v4) := by
  unfold Si Ec
  repeat (first | exact Le.rfl | exact N1o fu _ _ | exact V0 _ | refine Le.bind ?_ (fun _ => ?_) | refine Le.ite ?_ ?_)
def Y16 (fu : Nat) (op : Int) : Option Int :=
  if (op == 0) = true then
    Si fu op (op == 0)
  else
    if (op == 1) = true then
      Si fu op (op == 1)
    else
      if (op == 2) = true then
        Si fu op (op == 2)
      else
        Si fu op (op == 3)
theorem Gq (fu : Nat) (op : Int) : Le (Y16 fu op) (Nn op) := by
  unfold Y16 Nn
  repeat (first | exact Le.rfl | exact O1o fu _ _ | exact V0 _ | refine Le.bind ?_ (fun _ => ?_) | refine Le.ite ?_ ?_)
def Mm : Nat → C0 → Option Bool
  | 0, _ => none
  | fu + 1, o0 =>
    if (bif (o0.Op == 4) then true else (o0.Op == 5)) = true then
      if (((o0.Kids).length : Int) == 0) = true then
        some false
      else
        idx o0.Kids 0 >>= fun x1 =>
        Mm fu x1
    else
      some (o0.Op == 3)
theorem L1m (fu : Nat) : (∀ (o0 : C0), Le (Mm fu o0) (Fc o0)) := by
  induction fu with
  | zero => exact fun _ => Le.none
  | succ fu ih =>
    have ih0 := ih
    refine fun o0 => ?_
    · rw [Mm, Fc]
      repeat (first | exact Le.rfl | exact ih0 _ | exact V0 _ | refine Le.bind ?_ (fun _ => ?_) | refine Le.ite ?_ ?_)
theorem P1o (fu : Nat) (o0 : C0) : Le (Mm fu o0) (Fc o0) := (L1m fu) o0
def Ey (fu : Nat) (e : C0) : Option Bool :=
  Mm fu e
theorem Fa (fu : Nat) (e : C0) : Le (Ey fu e) (Uk e) := by
  unfold Ey Uk
  repeat (first | exact Le.rfl | exact P1o fu _ | exact V0 _ | refine Le.bind ?_ (fun _ => ?_) | refine Le.ite ?_ ?_)
mutual
def Eb : Nat → C0 → Int → E0 → Option E0
  | 0, _, _, _ => none
  | fu + 1, e, depth, syntaxReport =>
    Di fu depth (E0.mk (IntKind.i64.wrap (syntaxReport.nodes + 1)) syntaxReport.depth syntaxReport.badForm syntaxReport.badName syntaxReport.badNumber) >>= fun x1 =>
    Y16 fu e.Op >>= fun x2 =>
    F1 fu (x2 == ((e.Kids).length : Int)) x1 >>= fun x3 =>
    F1 fu (bif (e.NV == 0) then true else (e.Op == 0)) x3 >>= fun x4 =>
    F1 fu (bif (e.Name == []) then true else (bif (e.Op == 3) then true else (e.Op == 4))) x4 >>= fun x5 =>
    if (bif (e.Op == 4) then true else (e.Op == 5)) = true then
      Ey fu e >>= fun x6 =>
      F1 fu x6 x5 >>= fun x7 =>
      Ke fu e depth x7
    else
      Ke fu e depth x5
def Ke : Nat → C0 → Int → E0 → Option E0
  | 0, _, _, _ => none
  | fu + 1, e, depth, o0 =>
    if (bif (e.Op == 3) then true else (e.Op == 4)) = true then
      Db fu e.Name o0 >>= fun x8 =>
      Me fu e depth x8
    else
      Me fu e depth o0
def Me : Nat → C0 → Int → E0 → Option E0
  | 0, _, _, _ => none
  | fu + 1, e, depth, o01 =>
    if (e.Op == 0) = true then
      N5 fu e.NV 0 1048576 >>= fun x9 =>
      W3 fu x9 o01 >>= fun x10 =>
      Oe fu e depth x10
    else
      Oe fu e depth o01
def Oe : Nat → C0 → Int → E0 → Option E0
  | 0, _, _, _ => none
  | fu + 1, e, depth, o02 =>
    Pe fu e depth o02 0
def Pe : Nat → C0 → Int → E0 → Int → Option E0
  | 0, _, _, _, _ => none
  | fu + 1, e, depth, o03, v82 =>
    if (decide (v82 < ((e.Kids).length : Int))) = true then
      idx e.Kids v82 >>= fun x11 =>
      Eb fu x11 (IntKind.i64.wrap (depth + 1)) o03 >>= fun x12 =>
      Pe fu e depth x12 (IntKind.i64.wrap (v82 + 1))
    else
      some o03
end
theorem Jg (fu : Nat) : (∀ (e : C0) (depth : Int) (syntaxReport : E0), Le (Eb fu e depth syntaxReport) (P3 e depth syntaxReport)) ∧ (∀ (e : C0) (depth : Int) (o0 : E0), Le (Ke fu e depth o0) (K6 e depth o0)) ∧ (∀ (e : C0) (depth : Int) (o01 : E0), Le (Me fu e depth o01) (X7 e depth o01)) ∧ (∀ (e : C0) (depth : Int) (o02 : E0), Le (Oe fu e depth o02) (Y7 e depth o02)) ∧ (∀ (e : C0) (depth : Int) (o03 : E0) (v82 : Int), Le (Pe fu e depth o03 v82) (A4 e depth o03 v82)) := by
  induction fu with
  | zero => exact ⟨fun _ _ _ => Le.none, fun _ _ _ => Le.none, fun _ _ _ => Le.none, fun _ _ _ => Le.none, fun _ _ _ _ => Le.none⟩
  | succ fu ih =>
    obtain ⟨ih0, ih1, ih2, ih3, ih4⟩ := ih
    refine ⟨fun e depth syntaxReport => ?_, fun e depth o0 => ?_, fun e depth o01 => ?_, fun e depth o02 => ?_, fun e depth o03 v82 => ?_⟩
    · rw [Eb, P3]
      repeat (first | exact Le.rfl | exact ih0 _ _ _ | exact ih1 _ _ _ | exact ih2 _ _ _ | exact ih3 _ _ _ | exact ih4 _ _ _ _ | exact N2 fu _ _ | exact Gq fu _ | exact O1 fu _ _ | exact Fa fu _ | exact R1 fu _ _ | exact H3 fu _ _ _ | exact X1 fu _ _ | exact V0 _ | refine Le.bind ?_ (fun _ => ?_) | refine Le.ite ?_ ?_)
    · rw [Ke, K6]
      repeat (first | exact Le.rfl | exact ih0 _ _ _ | exact ih1 _ _ _ | exact ih2 _ _ _ | exact ih3 _ _ _ | exact ih4 _ _ _ _ | exact N2 fu _ _ | exact Gq fu _ | exact O1 fu _ _ | exact Fa fu _ | exact R1 fu _ _ | exact H3 fu _ _ _ | exact X1 fu _ _ | exact V0 _ | refine Le.bind ?_ (fun _ => ?_) | refine Le.ite ?_ ?_)
    · rw [Me, X7]
      repeat (first | exact Le.rfl | exact ih0 _ _ _ | exact ih1 _ _ _ | exact ih2 _ _ _ | exact ih3 _ _ _ | exact ih4 _ _ _ _ | exact N2 fu _ _ | exact Gq fu _ | exact O1 fu _ _ | exact Fa fu _ | exact R1 fu _ _ | exact H3 fu _ _ _ | exact X1 fu _ _ | exact V0 _ | refine Le.bind ?_ (fun _ => ?_) | refine Le.ite ?_ ?_)
    · rw [Oe, Y7]
      repeat (first | exact Le.rfl | exact ih0 _ _ _ | exact ih1 _ _ _ | exact ih2 _ _ _ | exact ih3 _ _ _ | exact ih4 _ _ _ _ | exact N2 fu _ _ | exact Gq fu _ | exact O1 fu _ _ | exact Fa fu _ | exact R1 fu _ _ | exact H3 fu _ _ _ | exact X1 fu _ _ | exact V0 _ | refine Le.bind ?_ (fun _ => ?_) | refine Le.ite ?_ ?_)
    · rw [Pe, A4]
      repeat (first | exact Le.rfl | exact ih0 _ _ _ | exact ih1 _ _ _ | exact ih2 _ _ _ | exact ih3 _ _ _ | exact ih4 _ _ _ _ | exact N2 fu _ _ | exact Gq fu _ | exact O1 fu _ _ | exact Fa fu _ | exact R1 fu _ _ | exact H3 fu _ _ _ | exact X1 fu _ _ | exact V0 _ | refine Le.bind ?_ (fun _ => ?_) | refine Le.ite ?_ ?_)
theorem X9 (fu : Nat) (e : C0) (depth : Int) (syntaxReport : E0) : Le (Eb fu e depth syntaxReport) (P3 e depth syntaxReport) := (Jg fu).1 e depth syntaxReport
theorem W22 (fu : Nat) (e : C0) (depth : Int) (o0 : E0) : Le (Ke fu e depth o0) (K6 e depth o0) := (Jg fu).2.1 e depth o0
theorem X22 (fu : Nat) (e : C0) (depth : Int) (o01 : E0) : Le (Me fu e depth o01) (X7 e depth o01) := (Jg fu).2.2.1 e depth o01
theorem Y22 (fu : Nat) (e : C0) (depth : Int) (o02 : E0) : Le (Oe fu e depth o02) (Y7 e depth o02) := (Jg fu).2.2.2.1 e depth o02
theorem Z22 (fu : Nat) (e : C0) (depth : Int) (o03 : E0) (v82 : Int) : Le (Pe fu e depth o03 v82) (A4 e depth o03 v82) := (Jg fu).2.2.2.2 e depth o03 v82
def Id (fu : Nat) (e : C0) (used : Bool) (syntaxReport : E0) : Option E0 :=
  (if (!used) = true then Il fu e (C0.mk 0 0 [] []) else some default) >>= fun x1 =>
  if (bif (!used) then x1 else false) = true then
    some syntaxReport
  else
    F1 fu used syntaxReport >>= fun x2 =>
    Eb fu e 1 x2 >>= fun x3 =>
    some x3
theorem Z3 (fu : Nat) (e : C0) (used : Bool) (syntaxReport : E0) : Le (Id fu e used syntaxReport) (I4 e used syntaxReport) := by
  unfold Id I4
  repeat (first | exact Le.rfl | exact K1m fu _ _ | exact O1 fu _ _ | exact X9 fu _ _ _ | exact V0 _ | refine Le.bind ?_ (fun _ => ?_) | refine Le.ite ?_ ?_)
def Gx (fu : Nat) (v : Int) : Option (X0 × Bool) :=
  if (v == 0) = true then
    some ((X0.mk true true false false false false false false false), true)
  else
    if (v == 1) = true then
      some ((X0.mk true false true true false false false false false), true)
    else
      if (v == 2) = true then
        some ((X0.mk true false true false false false false false false), true)
      else
        if (v == 3) = true then
          some ((X0.mk false true false false false false false false false), true)
        else
          if (v == 4) = true then
            some ((X0.mk false false false false true false false false false), true)
          else
            if (v == 5) = true then
              some ((X0.mk false true false false false false false true true), true)
            else
              if (v == 6) = true then
                some ((X0.mk false true false false true false false true false), true)
              else
                if (v == 7) = true then
                  some ((X0.mk false false true false false true false true false), true)
                else
                  if (v == 8) = true then
                    some ((X0.mk false false false false false false true false false), true)
                  else
                    some ((X0.mk false false false false false false false false false), false)
theorem Mj (fu : Nat) (v : Int) : Le (Gx fu v) (Qg v) := by
  unfold Gx Qg
  repeat (first | exact Le.rfl | exact V0 _ | refine Le.bind ?_ (fun _ => ?_) | refine Le.ite ?_ ?_)
def Hb : Nat → D0 → E0 → Int → Int → Option E0
  | 0, _, _, _, _ => none
  | fu + 1, s, o0, last, v58 =>
    if (decide (v58 < ((s.Numbers).length : Int))) = true then
      idx s.Numbers v58 >>= fun x10 =>
      N5 fu x10 0 1048576 >>= fun x11 =>
      W3 fu (bif x11 then (decide (x10 > last)) else false) o0 >>= fun x12 =>
      Hb fu s x12 x10 (IntKind.i64.wrap (v58 + 1))
    else
      some o0
theorem Z16 (fu : Nat) : (∀ (s : D0) (o0 : E0) (last : Int) (v58 : Int), Le (Hb fu s o0 last v58) (Q3 s o0 last v58)) := by
  induction fu with
  | zero => exact fun _ _ _ _ => Le.none
  | succ fu ih =>
    have ih0 := ih
    refine fun s o0 last v58 => ?_
    · rw [Hb, Q3]
      repeat (first | exact Le.rfl | exact ih0 _ _ _ _ | exact H3 fu _ _ _ | exact X1 fu _ _ | exact V0 _ | refine Le.bind ?_ (fun _ => ?_) | refine Le.ite ?_ ?_)
theorem M19 (fu : Nat) (s : D0) (o0 : E0) (last : Int) (v58 : Int) : Le (Hb fu s o0 last v58) (Q3 s o0 last v58) := (Z16 fu) s o0 last v58
def Dp (fu : Nat) (s : D0) (syntaxReport : E0) : Option E0 :=
  if (s.Verb == 4) = true then
    N5 fu s.NV 0 1048576 >>= fun x1 =>
    W3 fu x1 syntaxReport >>= fun x2 =>
    some x2
  else
    if (s.Verb == 6) = true then
      N5 fu s.NV 0 4096 >>= fun x3 =>
      W3 fu x3 syntaxReport >>= fun x4 =>
      some x4
    else
      if (s.Verb == 7) = true then
        N5 fu s.Low (-1048576) 1048576 >>= fun x5 =>
        (if x5 = true then N5 fu s.High s.Low 1048576 else some default) >>= fun x6 =>
        W3 fu (bif (bif x5 then x6 else false) then (decide ((IntKind.i64.wrap (s.High - s.Low)) < 4096)) else false) syntaxReport >>= fun x7 =>
        some x7
      else
        if (s.Verb == 8) = true then
          N5 fu ((s.Numbers).length : Int) 1 32 >>= fun x8 =>
          W3 fu x8 syntaxReport >>= fun x9 =>
          Hb fu s x9 (-1) 0
        else
          some syntaxReport
theorem Jd (fu : Nat) (s : D0) (syntaxReport : E0) : Le (Dp fu s syntaxReport) (Z7 s syntaxReport) := by
  unfold Dp Z7
  repeat (first | exact Le.rfl | exact H3 fu _ _ _ | exact X1 fu _ _ | exact M19 fu _ _ _ _ | exact V0 _ | refine Le.bind ?_ (fun _ => ?_) | refine Le.ite ?_ ?_)
mutual
def Y9 : Nat → (List D0) → Int → E0 → Option E0
  | 0, _, _, _ => none
  | fu + 1, l, nesting, syntaxReport =>
    Kd fu l nesting syntaxReport 0
def Kd : Nat → (List D0) → Int → E0 → Int → Option E0
  | 0, _, _, _, _ => none
  | fu + 1, l, nesting, o03, v14 =>
    if (decide (v14 < ((l).length : Int))) = true then
      idx l v14 >>= fun x1 =>
      Di fu nesting (E0.mk (IntKind.i64.wrap (o03.nodes + 1)) o03.depth o03.badForm o03.badName o03.badNumber) >>= fun x2 =>
      Gx fu x1.Verb >>= fun x3 =>
      F1 fu x3.2 x2 >>= fun x4 =>
      Id fu x1.Place x3.1.place x4 >>= fun x5 =>
      if x3.1.place = true then
        Ey fu x1.Place >>= fun x6 =>
        F1 fu x6 x5 >>= fun x7 =>
        Ld fu l nesting x7 x1 x3 v14
      else
        Ld fu l nesting x5 x1 x3 v14
    else
      some o03
def Ld : Nat → (List D0) → Int → E0 → D0 → (X0 × Bool) → Int → Option E0
  | 0, _, _, _, _, _, _ => none
  | fu + 1, l, nesting, o0, x1, x3, v141 =>
    Id fu x1.Value x3.1.value o0 >>= fun x8 =>
    F1 fu (bif x3.1.name then true else (x1.Name == [])) x8 >>= fun x9 =>
    if x3.1.name = true then
      Db fu x1.Name x9 >>= fun x10 =>
      Md fu l nesting x10 x1 x3 v141
    else
      Md fu l nesting x9 x1 x3 v141
def Md : Nat → (List D0) → Int → E0 → D0 → (X0 × Bool) → Int → Option E0
  | 0, _, _, _, _, _, _ => none
  | fu + 1, l, nesting, o01, x1, x3, v142 =>
    F1 fu (bif x3.1.args then true else (((x1.Args).length : Int) == 0)) o01 >>= fun x11 =>
    Nd fu l nesting x11 x1 x3 v142 0
def Nd : Nat → (List D0) → Int → E0 → D0 → (X0 × Bool) → Int → Int → Option E0
  | 0, _, _, _, _, _, _, _ => none
  | fu + 1, l, nesting, o02, x1, x3, v143, v84 =>
    if (decide (v84 < ((x1.Args).length : Int))) = true then
      idx x1.Args v84 >>= fun x12 =>
      Eb fu x12 1 o02 >>= fun x13 =>
      Nd fu l nesting x13 x1 x3 v143 (IntKind.i64.wrap (v84 + 1))
    else
      F1 fu (bif x3.1.n then true else (x1.NV == 0)) o02 >>= fun x14 =>
      F1 fu (bif x3.1.bounds then true else (bif (x1.Low == 0) then (x1.High == 0) else false)) x14 >>= fun x15 =>
      F1 fu (bif x3.1.numbers then true else (((x1.Numbers).length : Int) == 0)) x15 >>= fun x16 =>
      F1 fu (bif x3.1.thenV then true else (((x1.Then).length : Int) == 0)) x16 >>= fun x17 =>
      F1 fu (bif x3.1.other then true else (((x1.Else).length : Int) == 0)) x17 >>= fun x18 =>
      Dp fu x1 x18 >>= fun x19 =>
      Y9 fu x1.Then (IntKind.i64.wrap (nesting + 1)) x19 >>= fun x20 =>
      Y9 fu x1.Else (IntKind.i64.wrap (nesting + 1)) x20 >>= fun x21 =>
      Kd fu l nesting x21 (IntKind.i64.wrap (v143 + 1))
end
theorem Qe (fu : Nat) : (∀ (l : List D0) (nesting : Int) (syntaxReport : E0), Le (Y9 fu l nesting syntaxReport) (X3 l nesting syntaxReport)) ∧ (∀ (l : List D0) (nesting : Int) (o03 : E0) (v14 : Int), Le (Kd fu l nesting o03 v14) (J4 l nesting o03 v14)) ∧ (∀ (l : List D0) (nesting : Int) (o0 : E0) (x1 : D0) (x3 : X0 × Bool) (v141 : Int), Le (Ld fu l nesting o0 x1 x3 v141) (X4 l nesting o0 x1 x3 v141)) ∧ (∀ (l : List D0) (nesting : Int) (o01 : E0) (x1 : D0) (x3 : X0 × Bool) (v142 : Int), Le (Md fu l nesting o01 x1 x3 v142) (Y4 l nesting o01 x1 x3 v142)) ∧ (∀ (l : List D0) (nesting : Int) (o02 : E0) (x1 : D0) (x3 : X0 × Bool) (v143 : Int) (v84 : Int), Le (Nd fu l nesting o02 x1 x3 v143 v84) (V5 l nesting o02 x1 x3 v143 v84)) := by
  induction fu with
  | zero => exact ⟨fun _ _ _ => Le.none, fun _ _ _ _ => Le.none, fun _ _ _ _ _ _ => Le.none, fun _ _ _ _ _ _ => Le.none, fun _ _ _ _ _ _ _ => Le.none⟩
  | succ fu ih =>
    obtain ⟨ih0, ih1, ih2, ih3, ih4⟩ := ih
    refine ⟨fun l nesting syntaxReport => ?_, fun l nesting o03 v14 => ?_, fun l nesting o0 x1 x3 v141 => ?_, fun l nesting o01 x1 x3 v142 => ?_, fun l nesting o02 x1 x3 v143 v84 => ?_⟩
    · rw [Y9, X3]
      repeat (first | exact Le.rfl | exact ih0 _ _ _ | exact ih1 _ _ _ _ | exact ih2 _ _ _ _ _ _ | exact ih3 _ _ _ _ _ _ | exact ih4 _ _ _ _ _ _ _ | exact N2 fu _ _ | exact Mj fu _ | exact O1 fu _ _ | exact Z3 fu _ _ _ | exact Fa fu _ | exact R1 fu _ _ | exact X9 fu _ _ _ | exact Jd fu _ _ | exact V0 _ | refine Le.bind ?_ (fun _ => ?_) | refine Le.ite ?_ ?_)
    · rw [Kd, J4]
      repeat (first | exact Le.rfl | exact ih0 _ _ _ | exact ih1 _ _ _ _ | exact ih2 _ _ _ _ _ _ | exact ih3 _ _ _ _ _ _ | exact ih4 _ _ _ _ _ _ _ | exact N2 fu _ _ | exact Mj fu _ | exact O1 fu _ _ | exact Z3 fu _ _ _ | exact Fa fu _ | exact R1 fu _ _ | exact X9 fu _ _ _ | exact Jd fu _ _ | exact V0 _ | refine Le.bind ?_ (fun _ => ?_) | refine Le.ite ?_ ?_)
    · rw [Ld, X4]
      repeat (first | exact Le.rfl | exact ih0 _ _ _ | exact ih1 _ _ _ _ | exact ih2 _ _ _ _ _ _ | exact ih3 _ _ _ _ _ _ | exact ih4 _ _ _ _ _ _ _ | exact N2 fu _ _ | exact Mj fu _ | exact O1 fu _ _ | exact Z3 fu _ _ _ | exact Fa fu _ | exact R1 fu _ _ | exact X9 fu _ _ _ | exact Jd fu _ _ | exact V0 _ | refine Le.bind ?_ (fun _ => ?_) | refine Le.ite ?_ ?_)
    · rw [Md, Y4]
      repeat (first | exact Le.rfl | exact ih0 _ _ _ | exact ih1 _ _ _ _ | exact ih2 _ _ _ _ _ _ | exact ih3 _ _ _ _ _ _ | exact ih4 _ _ _ _ _ _ _ | exact N2 fu _ _ | exact Mj fu _ | exact O1 fu _ _ | exact Z3 fu _ _ _ | exact Fa fu _ | exact R1 fu _ _ | exact X9 fu _ _ _ | exact Jd fu _ _ | exact V0 _ | refine Le.bind ?_ (fun _ => ?_) | refine Le.ite ?_ ?_)
    · rw [Nd, V5]
      repeat (first | exact Le.rfl | exact ih0 _ _ _ | exact ih1 _ _ _ _ | exact ih2 _ _ _ _ _ _ | exact ih3 _ _ _ _ _ _ | exact ih4 _ _ _ _ _ _ _ | exact N2 fu _ _ | exact Mj fu _ | exact O1 fu _ _ | exact Z3 fu _ _ _ | exact Fa fu _ | exact R1 fu _ _ | exact X9 fu _ _ _ | exact Jd fu _ _ | exact V0 _ | refine Le.bind ?_ (fun _ => ?_) | refine Le.ite ?_ ?_)
theorem Wb (fu : Nat) (l : List D0) (nesting : Int) (syntaxReport : E0) : Le (Y9 fu l nesting syntaxReport) (X3 l nesting syntaxReport) := (Qe fu).1 l nesting syntaxReport
theorem R20 (fu : Nat) (l : List D0) (nesting : Int) (o03 : E0) (v14 : Int) : Le (Kd fu l nesting o03 v14) (J4 l nesting o03 v14) := (Qe fu).2.1 l nesting o03 v14
theorem S20 (fu : Nat) (l : List D0) (nesting : Int) (o0 : E0) (x1 : D0) (x3 : X0 × Bool) (v141 : Int) : Le (Ld fu l nesting o0 x1 x3 v141) (X4 l nesting o0 x1 x3 v141) := (Qe fu).2.2.1 l nesting o0 x1 x3 v141
theorem T20 (fu : Nat) (l : List D0) (nesting : Int) (o01 : E0) (x1 : D0) (x3 : X0 × Bool) (v142 : Int) : Le (Md fu l nesting o01 x1 x3 v142) (Y4 l nesting o01 x1 x3 v142) := (Qe fu).2.2.2.1 l nesting o01 x1 x3 v142
theorem U20 (fu : Nat) (l : List D0) (nesting : Int) (o02 : E0) (x1 : D0) (x3 : X0 × Bool) (v143 : Int) (v84 : Int) : Le (Nd fu l nesting o02 x1 x3 v143 v84) (V5 l nesting o02 x1 x3 v143 v84) := (Qe fu).2.2.2.2 l nesting o02 x1 x3 v143 v84
mutual
def Pc : Nat → (List B0) → E0 → Option E0
  | 0, _, _ => none
  | fu + 1, l, syntaxReport =>
    Od fu l syntaxReport 0
def Od : Nat → (List B0) → E0 → Int → Option E0
  | 0, _, _, _ => none
  | fu + 1, l, o03, v15 =>
    if (decide (v15 < ((l).length : Int))) = true then
      idx l v15 >>= fun x1 =>
      Uy fu x1.Kind >>= fun x2 =>
      F1 fu x2.1 (E0.mk (IntKind.i64.wrap (o03.nodes + 1)) o03.depth o03.badForm o03.badName o03.badNumber) >>= fun x3 =>
      (if (!x2.1) = true then Hl fu x1.TypeV (A0.mk 0 0 0 0 [] [] []) else some default) >>= fun x4 =>
      if (bif x2.1 then true else (!x4)) = true then
        Xf fu x1.TypeV 1 x3 >>= fun x5 =>
        Pd fu l x5 x1 x2 v15
      else
        Pd fu l x3 x1 x2 v15
    else
      some o03
def Pd : Nat → (List B0) → E0 → B0 → (Bool × Bool) → Int → Option E0
  | 0, _, _, _, _, _ => none
  | fu + 1, l, o0, x1, x2, v151 =>
    Db fu x1.Name o0 >>= fun x6 =>
    Id fu x1.Value x2.2 x6 >>= fun x7 =>
    F1 fu (bif (x1.Kind == 4) then true else (x1.Init == 0)) x7 >>= fun x8 =>
    N5 fu x1.Init (-1048576) 1048576 >>= fun x9 =>
    (if (x9 && (!(x1.TypeV.Kind != 0))) = true then N5 fu x1.Init 0 1 else some default) >>= fun x10 =>
    W3 fu (bif x9 then (bif (x1.TypeV.Kind != 0) then true else x10) else false) x8 >>= fun x11 =>
    F1 fu (bif (x1.Kind == 6) then true else (bif (bif (((x1.Params).length : Int) == 0) then (((x1.Vars).length : Int) == 0) else false) then (((x1.Body).length : Int) == 0) else false)) x11 >>= fun x12 =>
    Qd fu l x12 x1 v151 0
def Qd : Nat → (List B0) → E0 → B0 → Int → Int → Option E0
  | 0, _, _, _, _, _ => none
  | fu + 1, l, o01, x1, v152, v109 =>
    if (decide (v109 < ((x1.Params).length : Int))) = true then
      idx x1.Params v109 >>= fun x13 =>
      F1 fu (bif (x13.Kind == 4) then (x13.Init == 0) else false) o01 >>= fun x14 =>
      Qd fu l x14 x1 v152 (IntKind.i64.wrap (v109 + 1))
    else
      Sd fu l o01 x1 v152 0
def Sd : Nat → (List B0) → E0 → B0 → Int → Int → Option E0
  | 0, _, _, _, _, _ => none
  | fu + 1, l, o02, x1, v153, v127 =>
    if (decide (v127 < ((x1.Vars).length : Int))) = true then
      idx x1.Vars v127 >>= fun x15 =>
      F1 fu (x15.Kind == 4) o02 >>= fun x16 =>
      Sd fu l x16 x1 v153 (IntKind.i64.wrap (v127 + 1))
    else
      Pc fu x1.Params o02 >>= fun x17 =>
      Pc fu x1.Vars x17 >>= fun x18 =>
      Y9 fu x1.Body 1 x18 >>= fun x19 =>
      Od fu l x19 (IntKind.i64.wrap (v153 + 1))
end
theorem Re (fu : Nat) : (∀ (l : List B0) (syntaxReport : E0), Le (Pc fu l syntaxReport) (M5 l syntaxReport)) ∧ (∀ (l : List B0) (o03 : E0) (v15 : Int), Le (Od fu l o03 v15) (Z4 l o03 v15)) ∧ (∀ (l : List B0) (o0 : E0) (x1 : B0) (x2 : Bool × Bool) (v151 : Int), Le (Pd fu l o0 x1 x2 v151) (W5 l o0 x1 x2 v151)) ∧ (∀ (l : List B0) (o01 : E0) (x1 : B0) (v152 : Int) (v109 : Int), Le (Qd fu l o01 x1 v152 v109) (A5 l o01 x1 v152 v109)) ∧ (∀ (l : List B0) (o02 : E0) (x1 : B0) (v153 : Int) (v127 : Int), Le (Sd fu l o02 x1 v153 v127) (X5 l o02 x1 v153 v127)) := by
  induction fu with
  | zero => exact ⟨fun _ _ => Le.none, fun _ _ _ => Le.none, fun _ _ _ _ _ => Le.none, fun _ _ _ _ _ => Le.none, fun _ _ _ _ _ => Le.none⟩
  | succ fu ih =>
    obtain ⟨ih0, ih1, ih2, ih3, ih4⟩ := ih
    refine ⟨fun l syntaxReport => ?_, fun l o03 v15 => ?_, fun l o0 x1 x2 v151 => ?_, fun l o01 x1 v152 v109 => ?_, fun l o02 x1 v153 v127 => ?_⟩
    · rw [Pc, M5]
      repeat (first | exact Le.rfl | exact ih0 _ _ | exact ih1 _ _ _ | exact ih2 _ _ _ _ _ | exact ih3 _ _ _ _ _ | exact ih4 _ _ _ _ _ | exact Gl fu _ | exact O1 fu _ _ | exact Lj fu _ _ | exact Fe fu _ _ _ | exact R1 fu _ _ | exact Z3 fu _ _ _ | exact H3 fu _ _ _ | exact X1 fu _ _ | exact Wb fu _ _ _ | exact V0 _ | refine Le.bind ?_ (fun _ => ?_) | refine Le.ite ?_ ?_)
    · rw [Od, Z4]
      repeat (first | exact Le.rfl | exact ih0 _ _ | exact ih1 _ _ _ | exact ih2 _ _ _ _ _ | exact ih3 _ _ _ _ _ | exact ih4 _ _ _ _ _ | exact Gl fu _ | exact O1 fu _ _ | exact Lj fu _ _ | exact Fe fu _ _ _ | exact R1 fu _ _ | exact Z3 fu _ _ _ | exact H3 fu _ _ _ | exact X1 fu _ _ | exact Wb fu _ _ _ | exact V0 _ | refine Le.bind ?_ (fun _ => ?_) | refine Le.ite ?_ ?_)
    · rw [Pd, W5]
      repeat (first | exact Le.rfl | exact ih0 _ _ | exact ih1 _ _ _ | exact ih2 _ _ _ _ _ | exact ih3 _ _ _ _ _ | exact ih4 _ _ _ _ _ | exact Gl fu _ | exact O1 fu _ _ | exact Lj fu _ _ | exact Fe fu _ _ _ | exact R1 fu _ _ | exact Z3 fu _ _ _ | exact H3 fu _ _ _ | exact X1 fu _ _ | exact Wb fu _ _ _ | exact V0 _ | refine Le.bind ?_ (fun _ => ?_) | refine Le.ite ?_ ?_)
    · rw [Qd, A5]
      repeat (first | exact Le.rfl | exact ih0 _ _ | exact ih1 _ _ _ | exact ih2 _ _ _ _ _ | exact ih3 _ _ _ _ _ | exact ih4 _ _ _ _ _ | exact Gl fu _ | exact O1 fu _ _ | exact Lj fu _ _ | exact Fe fu _ _ _ | exact R1 fu _ _ | exact Z3 fu _ _ _ | exact H3 fu _ _ _ | exact X1 fu _ _ | exact Wb fu _ _ _ | exact V0 _ | refine Le.bind ?_ (fun _ => ?_) | refine Le.ite ?_ ?_)
    · rw [Sd, X5]
      repeat (first | exact Le.rfl | exact ih0 _ _ | exact ih1 _ _ _ | exact ih2 _ _ _ _ _ | exact ih3 _ _ _ _ _ | exact ih4 _ _ _ _ _ | exact Gl fu _ | exact O1 fu _ _ | exact Lj fu _ _ | exact Fe fu _ _ _ | exact R1 fu _ _ | exact Z3 fu _ _ _ | exact H3 fu _ _ _ | exact X1 fu _ _ | exact Wb fu _ _ _ | exact V0 _ | refine Le.bind ?_ (fun _ => ?_) | refine Le.ite ?_ ?_)
theorem A1h (fu : Nat) (l : List B0) (syntaxReport : E0) : Le (Pc fu l syntaxReport) (M5 l syntaxReport) := (Re fu).1 l syntaxReport
theorem V20 (fu : Nat) (l : List B0) (o03 : E0) (v15 : Int) : Le (Od fu l o03 v15) (Z4 l o03 v15) := (Re fu).2.1 l o03 v15
theorem W20 (fu : Nat) (l : List B0) (o0 : E0) (x1 : B0) (x2 : Bool × Bool) (v151 : Int) : Le (Pd fu l o0 x1 x2 v151) (W5 l o0 x1 x2 v151) := (Re fu).2.2.1 l o0 x1 x2 v151
theorem X20 (fu : Nat) (l : List B0) (o01 : E0) (x1 : B0) (v152 : Int) (v109 : Int) : Le (Qd fu l o01 x1 v152 v109) (A5 l o01 x1 v152 v109) := (Re fu).2.2.2.1 l o01 x1 v152 v109
theorem Y20 (fu : Nat) (l : List B0) (o02 : E0) (x1 : B0) (v153 : Int) (v127 : Int) : Le (Sd fu l o02 x1 v153 v127) (X5 l o02 x1 v153 v127) := (Re fu).2.2.2.2 l o02 x1 v153 v127
def T10 (fu : Nat) (p : K0) : Option E0 :=
  Pc fu p.Decls (E0.mk 0 0 false false false) >>= fun x1 =>
  Y9 fu p.Body 1 x1 >>= fun x2 =>
  some x2
theorem S1q (fu : Nat) (p : K0) : Le (T10 fu p) (Uj p) := by
  unfold T10 Uj
  repeat (first | exact Le.rfl | exact A1h fu _ _ | exact Wb fu _ _ _ | exact V0 _ | refine Le.bind ?_ (fun _ => ?_) | refine Le.ite ?_ ?_)
def Ei (fu : Nat) (syntaxReport : E0) : Option Int :=
  if (bif (decide (syntaxReport.nodes > 1024)) then true else (decide (syntaxReport.depth > 12))) = true then
    some 4
  else
    if syntaxReport.badForm = true then
      some 1
    else
      if syntaxReport.badName = true then
        some 7
      else
        if syntaxReport.badNumber = true then
          some 3
        else
          some 0
theorem Js (fu : Nat) (syntaxReport : E0) : Le (Ei fu syntaxReport) (E7 syntaxReport) := by
  unfold Ei E7
  repeat (first | exact Le.rfl | exact V0 _ | refine Le.bind ?_ (fun _ => ?_) | refine Le.ite ?_ ?_)
def A17 (fu : Nat) (p : K0) : Option Int :=
  T10 fu p >>= fun x1 =>
  Ei fu x1 >>= fun x2 =>
  some x2
theorem H1v (fu : Nat) (p : K0) : Le (A17 fu p) (On p) := by
  unfold A17 On
  repeat (first | exact Le.rfl | exact S1q fu _ | exact Js fu _ | exact V0 _ | refine Le.bind ?_ (fun _ => ?_) | refine Le.ite ?_ ?_)
mutual
def Q7 : Nat → F0 → (List (Str × Bool)) → Int → Option Int
  | 0, _, _, _ => none
  | fu + 1, c, m0, v18 =>
    if (decide (v18 < ((c.p.Decls).length : Int))) = true then
      idx c.p.Decls v18 >>= fun x1 =>
      some (mgt x1.Name m0) >>= fun x2 =>
      if (x2.getD ebool.zero) = true then
        some v18
      else
        R7 fu c (mpt x1.Name true m0) [] v18 v18 x1 0
    else
      some (-1)
def R7 : Nat → F0 → (List (Str × Bool)) → (List (Str × Bool)) → Int → Int → B0 → Int → Option Int
  | 0, _, _, _, _, _, _, _ => none
  | fu + 1, c, m01, m21, i, v181, x1, v38 =>
    if (decide (v38 < (([x1.Params, x1.Vars]).length : Int))) = true then
      idx [x1.Params, x1.Vars] v38 >>= fun x3 =>
      S7 fu c m01 m21 i v181 x1 v38 x3 0
    else
      Q7 fu c m01 (IntKind.i64.wrap (v181 + 1))
def S7 : Nat → F0 → (List (Str × Bool)) → (List (Str × Bool)) → Int → Int → B0 → Int → (List B0) → Int → Option Int
  | 0, _, _, _, _, _, _, _, _, _ => none
  | fu + 1, c, m02, m2, i1, v182, x1, v381, x3, v44 =>
    if (decide (v44 < ((x3).length : Int))) = true then
      idx x3 v44 >>= fun x4 =>
      some (mgt x4.Name c.names) >>= fun x5 =>
      some (mgt x4.Name m2) >>= fun x6 =>
      if (bif (x5.getD ebool.zero) then true else (x6.getD ebool.zero)) = true then
        some i1
      else
        S7 fu c m02 (mpt x4.Name true m2) i1 v182 x1 v381 x3 (IntKind.i64.wrap (v44 + 1))
    else
      R7 fu c m02 m2 i1 v182 x1 (IntKind.i64.wrap (v381 + 1))
end
theorem Cf (fu : Nat) : (∀ (c : F0) (m0 : List (Str × Bool)) (v18 : Int), Le (Q7 fu c m0 v18) (K2 c m0 v18)) ∧ (∀ (c : F0) (m01 : List (Str × Bool)) (m21 : List (Str × Bool)) (i : Int) (v181 : Int) (x1 : B0) (v38 : Int), Le (R7 fu c m01 m21 i v181 x1 v38) (A2 c m01 m21 i v181 x1 v38)) ∧ (∀ (c : F0) (m02 : List (Str × Bool)) (m2 : List (Str × Bool)) (i1 : Int) (v182 : Int) (x1 : B0) (v381 : Int) (x3 : List B0) (v44 : Int), Le (S7 fu c m02 m2 i1 v182 x1 v381 x3 v44) (W2 c m02 m2 i1 v182 x1 v381 x3 v44)) := by
  induction fu with
  | zero => exact ⟨fun _ _ _ => Le.none, fun _ _ _ _ _ _ _ => Le.none, fun _ _ _ _ _ _ _ _ _ => Le.none⟩
  | succ fu ih =>
    obtain ⟨ih0, ih1, ih2⟩ := ih
    refine ⟨fun c m0 v18 => ?_, fun c m01 m21 i v181 x1 v38 => ?_, fun c m02 m2 i1 v182 x1 v381 x3 v44 => ?_⟩
    · rw [Q7, K2]
      repeat (first | exact Le.rfl | exact ih0 _ _ _ | exact ih1 _ _ _ _ _ _ _ | exact ih2 _ _ _ _ _ _ _ _ _ | exact V0 _ | refine Le.bind ?_ (fun _ => ?_) | refine Le.ite ?_ ?_)
    · rw [R7, A2]
      repeat (first | exact Le.rfl | exact ih0 _ _ _ | exact ih1 _ _ _ _ _ _ _ | exact ih2 _ _ _ _ _ _ _ _ _ | exact V0 _ | refine Le.bind ?_ (fun _ => ?_) | refine Le.ite ?_ ?_)
    · rw [S7, W2]
      repeat (first | exact Le.rfl | exact ih0 _ _ _ | exact ih1 _ _ _ _ _ _ _ | exact ih2 _ _ _ _ _ _ _ _ _ | exact V0 _ | refine Le.bind ?_ (fun _ => ?_) | refine Le.ite ?_ ?_)
theorem Vz (fu : Nat) (c : F0) (m0 : List (Str × Bool)) (v18 : Int) : Le (Q7 fu c m0 v18) (K2 c m0 v18) := (Cf fu).1 c m0 v18
theorem G1r (fu : Nat) (c : F0) (m01 : List (Str × Bool)) (m21 : List (Str × Bool)) (i : Int) (v181 : Int) (x1 : B0) (v38 : Int) : Le (R7 fu c m01 m21 i v181 x1 v38) (A2 c m01 m21 i v181 x1 v38) := (Cf fu).2.1 c m01 m21 i v181 x1 v38
theorem H1r (fu : Nat) (c : F0) (m02 : List (Str × Bool)) (m2 : List (Str × Bool)) (i1 : Int) (v182 : Int) (x1 : B0) (v381 : Int) (x3 : List B0) (v44 : Int) : Le (S7 fu c m02 m2 i1 v182 x1 v381 x3 v44) (W2 c m02 m2 i1 v182 x1 v381 x3 v44) := (Cf fu).2.2 c m02 m2 i1 v182 x1 v381 x3 v44
def Ij (fu : Nat) (c : F0) : Option Int :=
  Q7 fu c [] 0
theorem Y13 (fu : Nat) (c : F0) : Le (Ij fu c) (A8 c) := by
  unfold Ij A8
  repeat (first | exact Le.rfl | exact Vz fu _ _ _ | exact V0 _ | refine Le.bind ?_ (fun _ => ?_) | refine Le.ite ?_ ?_)
def Hq (fu : Nat) (t : A0) : Option Int :=
  Xf fu t 1 (E0.mk 0 0 false false false) >>= fun x1 =>
  Ei fu x1 >>= fun x2 =>
  some x2
theorem F16 (fu : Nat) (t : A0) : Le (Hq fu t) (Tc t) := by
  unfold Hq Tc
  repeat (first | exact Le.rfl | exact Fe fu _ _ _ | exact Js fu _ | exact V0 _ | refine Le.bind ?_ (fun _ => ?_) | refine Le.ite ?_ ?_)
mutual
def Zn : Nat → A0 → (List (Str × A0)) → Option (A0 × Bool)
  | 0, _, _ => none
  | fu + 1, t, m =>
    if (t.Kind == 4) = true then
      some (mgt t.Name m) >>= fun x1 =>
      if (!x1.isSome) = true then
        some ((A0.mk 0 0 0 0 [] [] []), false)
      else
        Nj fu m (x1.getD A0.zero)
    else
      Nj fu m t
def Nj : Nat → (List (Str × A0)) → A0 → Option (A0 × Bool)
  | 0, _, _ => none
  | fu + 1, m, o1 =>
    Gb o1.Names >>= fun x2 =>
    Oj fu m o1 x2 [] 0
def Oj : Nat → (List (Str × A0)) → A0 → (List Str) → (List A0) → Int → Option (A0 × Bool)
  | 0, _, _, _, _, _ => none
  | fu + 1, m, o1, x2, o3_Of, v36 =>
    if (decide (v36 < ((o1.Of).length : Int))) = true then
      idx o1.Of v36 >>= fun x3 =>
      Zn fu x3 m >>= fun x4 =>
      if (!x4.2) = true then
        some ((A0.mk 0 0 0 0 [] [] []), false)
      else
        if (decide ((o3_Of.length + 1) * 97 ≤ 140737488355328)) = true then
          Oj fu m o1 x2 (o3_Of ++ [x4.1]) (IntKind.i64.wrap (v36 + 1))
        else none
    else
      some ((A0.mk o1.Kind o1.Low o1.High o1.Size o1.Name x2 o3_Of), true)
end
theorem Hx (fu : Nat) : (∀ (t : A0) (m : List (Str × A0)), Le (Zn fu t m) (Q5 t m)) ∧ (∀ (m : List (Str × A0)) (o1 : A0), Le (Nj fu m o1) (B8 m o1)) ∧ (∀ (m : List (Str × A0)) (o1 : A0) (x2 : List Str) (o3_Of : List A0) (v36 : Int), Le (Oj fu m o1 x2 o3_Of v36) (G5 m o1 x2 o3_Of v36)) := by
  induction fu with
  | zero => exact ⟨fun _ _ => Le.none, fun _ _ => Le.none, fun _ _ _ _ _ => Le.none⟩
  | succ fu ih =>
    obtain ⟨ih0, ih1, ih2⟩ := ih
    refine ⟨fun t m => ?_, fun m o1 => ?_, fun m o1 x2 o3_Of v36 => ?_⟩
    · rw [Zn, Q5]
      repeat (first | exact Le.rfl | exact ih0 _ _ | exact ih1 _ _ | exact ih2 _ _ _ _ _ | exact V0 _ | refine Le.bind ?_ (fun _ => ?_) | refine Le.ite ?_ ?_)
    · rw [Nj, B8]
      repeat (first | exact Le.rfl | exact ih0 _ _ | exact ih1 _ _ | exact ih2 _ _ _ _ _ | exact V0 _ | refine Le.bind ?_ (fun _ => ?_) | refine Le.ite ?_ ?_)
    · rw [Oj, G5]
      repeat (first | exact Le.rfl | exact ih0 _ _ | exact ih1 _ _ | exact ih2 _ _ _ _ _ | exact V0 _ | refine Le.bind ?_ (fun _ => ?_) | refine Le.ite ?_ ?_)
theorem T1q (fu : Nat) (t : A0) (m : List (Str × A0)) : Le (Zn fu t m) (Q5 t m) := (Hx fu).1 t m
theorem P29 (fu : Nat) (m : List (Str × A0)) (o1 : A0) : Le (Nj fu m o1) (B8 m o1) := (Hx fu).2.1 m o1
theorem Q29 (fu : Nat) (m : List (Str × A0)) (o1 : A0) (x2 : List Str) (o3_Of : List A0) (v36 : Int) : Le (Oj fu m o1 x2 o3_Of v36) (G5 m o1 x2 o3_Of v36) := (Hx fu).2.2 m o1 x2 o3_Of v36
def E8 : Nat → (List Str) → Str → Int → Option Int
  | 0, _, _, _ => none
  | fu + 1, s, v, v8 =>
    if (decide (v8 < ((s).length : Int))) = true then
      idx s v8 >>= fun x1 =>
      if (v == x1) = true then
        some v8
      else
        E8 fu s v (IntKind.i64.wrap (v8 + 1))
    else
      some (-1)
theorem Wz (fu : Nat) : (∀ (s : List Str) (v : Str) (v8 : Int), Le (E8 fu s v v8) (S2 s v v8)) := by
  induction fu with
  | zero => exact fun _ _ _ => Le.none
  | succ fu ih =>
    have ih0 := ih
    refine fun s v v8 => ?_
    · rw [E8, S2]
      repeat (first | exact Le.rfl | exact ih0 _ _ _ | exact V0 _ | refine Le.bind ?_ (fun _ => ?_) | refine Le.ite ?_ ?_)
theorem U10 (fu : Nat) (s : List Str) (v : Str) (v8 : Int) : Le (E8 fu s v v8) (S2 s v v8) := (Wz fu) s v v8
def Bk (fu : Nat) (s : List Str) (v : Str) : Option Int :=
  E8 fu s v 0
theorem X14 (fu : Nat) (s : List Str) (v : Str) : Le (Bk fu s v) (K8 s v) := by
  unfold Bk K8
  repeat (first | exact Le.rfl | exact U10 fu _ _ _ | exact V0 _ | refine Le.bind ?_ (fun _ => ?_) | refine Le.ite ?_ ?_)
def Qh (fu : Nat) (s : List Str) (v : Str) : Option Bool :=
  Bk fu s v >>= fun x1 =>
  some (decide (x1 ≥ 0))
theorem T7 (fu : Nat) (s : List Str) (v : Str) : Le (Qh fu s v) (J5 s v) := by
  unfold Qh J5
  repeat (first | exact Le.rfl | exact X14 fu _ _ | exact V0 _ | refine Le.bind ?_ (fun _ => ?_) | refine Le.ite ?_ ?_)
mutual
def Pp : Nat → A0 → Option Bool
  | 0, _ => none
  | fu + 1, t =>
    Ao fu t 0
def Ao : Nat → A0 → Int → Option Bool
  | 0, _, _ => none
  | fu + 1, t, v8 =>
    if (decide (v8 < ((t.Names).length : Int))) = true then
      idx t.Names v8 >>= fun x1 =>
      slc t.Names 0 v8 >>= fun x2 =>
      Qh fu x2 x1 >>= fun x3 =>
      if x3 = true then
        some true
      else
        Ao fu t (IntKind.i64.wrap (v8 + 1))
    else
      L7 fu t.Of >>= fun x4 =>
      some x4
def L7 : Nat → (List A0) → Option Bool
  | 0, _ => none
  | fu + 1, s =>
    X8 fu s >>= fun x1 =>
    some (decide (x1 ≥ 0))
def X8 : Nat → (List A0) → Option Int
  | 0, _ => none
  | fu + 1, s =>
    I5 fu s 0
def I5 : Nat → (List A0) → Int → Option Int
  | 0, _, _ => none
  | fu + 1, s, v8 =>
    if (decide (v8 < ((s).length : Int))) = true then
      idx s v8 >>= fun x1 =>
      Pp fu x1 >>= fun x2 =>
      if x2 = true then
        some v8
      else
        I5 fu s (IntKind.i64.wrap (v8 + 1))
    else
      some (-1)
end
theorem Iq (fu : Nat) : (∀ (t : A0), Le (Pp fu t) (Zd t)) ∧ (∀ (t : A0) (v8 : Int), Le (Ao fu t v8) (Nb t v8)) ∧ (∀ (s : List A0), Le (L7 fu s) (F2 s)) ∧ (∀ (s : List A0), Le (X8 fu s) (B4 s)) ∧ (∀ (s : List A0) (v8 : Int), Le (I5 fu s v8) (C2 s v8)) := by
  induction fu with
  | zero => exact ⟨fun _ => Le.none, fun _ _ => Le.none, fun _ => Le.none, fun _ => Le.none, fun _ _ => Le.none⟩
  | succ fu ih =>
    obtain ⟨ih0, ih1, ih2, ih3, ih4⟩ := ih
    refine ⟨fun t => ?_, fun t v8 => ?_, fun s => ?_, fun s => ?_, fun s v8 => ?_⟩
    · rw [Pp, Zd]
      repeat (first | exact Le.rfl | exact ih0 _ | exact ih1 _ _ | exact ih2 _ | exact ih3 _ | exact ih4 _ _ | exact T7 fu _ _ | exact V0 _ | refine Le.bind ?_ (fun _ => ?_) | refine Le.ite ?_ ?_)
    · rw [Ao, Nb]
      repeat (first | exact Le.rfl | exact ih0 _ | exact ih1 _ _ | exact ih2 _ | exact ih3 _ | exact ih4 _ _ | exact T7 fu _ _ | exact V0 _ | refine Le.bind ?_ (fun _ => ?_) | refine Le.ite ?_ ?_)
    · rw [L7, F2]
      repeat (first | exact Le.rfl | exact ih0 _ | exact ih1 _ _ | exact ih2 _ | exact ih3 _ | exact ih4 _ _ | exact T7 fu _ _ | exact V0 _ | refine Le.bind ?_ (fun _ => ?_) | refine Le.ite ?_ ?_)
    · rw [X8, B4]
      repeat (first | exact Le.rfl | exact ih0 _ | exact ih1 _ _ | exact ih2 _ | exact ih3 _ | exact ih4 _ _ | exact T7 fu _ _ | exact V0 _ | refine Le.bind ?_ (fun _ => ?_) | refine Le.ite ?_ ?_)
    · rw [I5, C2]
      repeat (first | exact Le.rfl | exact ih0 _ | exact ih1 _ _ | exact ih2 _ | exact ih3 _ | exact ih4 _ _ | exact T7 fu _ _ | exact V0 _ | refine Le.bind ?_ (fun _ => ?_) | refine Le.ite ?_ ?_)
theorem C1j (fu : Nat) (t : A0) : Le (Pp fu t) (Zd t) := (Iq fu).1 t
theorem M2e (fu : Nat) (t : A0) (v8 : Int) : Le (Ao fu t v8) (Nb t v8) := (Iq fu).2.1 t v8
theorem O1k (fu : Nat) (s : List A0) : Le (L7 fu s) (F2 s) := (Iq fu).2.2.1 s
theorem Q1m (fu : Nat) (s : List A0) : Le (X8 fu s) (B4 s) := (Iq fu).2.2.2.1 s
theorem P1k (fu : Nat) (s : List A0) (v8 : Int) : Le (I5 fu s v8) (C2 s v8) := (Iq fu).2.2.2.2 s v8
mutual
def Hu : Nat → A0 → Option Int
  | 0, _ => none
  | fu + 1, t =>
    Bo fu t 0 0
def Bo : Nat → A0 → Int → Int → Option Int
  | 0, _, _, _ => none
  | fu + 1, t, d, v9 =>
    if (decide (v9 < ((t.Of).length : Int))) = true then
      idx t.Of v9 >>= fun x1 =>
      Hu fu x1 >>= fun x2 =>
      Bo fu t (max d x2) (IntKind.i64.wrap (v9 + 1))
    else
      some (IntKind.i64.wrap (d + 1))
end
theorem C1g (fu : Nat) : (∀ (t : A0), Le (Hu fu t) (Bg t)) ∧ (∀ (t : A0) (d : Int) (v9 : Int), Le (Bo fu t d v9) (Pb t d v9)) := by
  induction fu with
  | zero => exact ⟨fun _ => Le.none, fun _ _ _ => Le.none⟩
  | succ fu ih =>
    obtain ⟨ih0, ih1⟩ := ih
    refine ⟨fun t => ?_, fun t d v9 => ?_⟩
    · rw [Hu, Bg]
      repeat (first | exact Le.rfl | exact ih0 _ | exact ih1 _ _ _ | exact V0 _ | refine Le.bind ?_ (fun _ => ?_) | refine Le.ite ?_ ?_)
    · rw [Bo, Pb]
      repeat (first | exact Le.rfl | exact ih0 _ | exact ih1 _ _ _ | exact V0 _ | refine Le.bind ?_ (fun _ => ?_) | refine Le.ite ?_ ?_)
theorem G1x (fu : Nat) (t : A0) : Le (Hu fu t) (Bg t) := (C1g fu).1 t
theorem N2e (fu : Nat) (t : A0) (d : Int) (v9 : Int) : Le (Bo fu t d v9) (Pb t d v9) := (C1g fu).2 t d v9
mutual
def Cm : Nat → A0 → Option Int
  | 0, _ => none
  | fu + 1, t =>
    if (t.Kind == 2) = true then
      idx t.Of 0 >>= fun x1 =>
      Cm fu x1 >>= fun x3 =>
      some (min (IntKind.i64.wrap ((min t.Size 33) * x3)) 33)
    else
      if (t.Kind == 3) = true then
        Co fu t 0 0
      else
        some (min 1 33)
def Co : Nat → A0 → Int → Int → Option Int
  | 0, _, _, _ => none
  | fu + 1, t, n, v24 =>
    if (decide (v24 < ((t.Of).length : Int))) = true then
      idx t.Of v24 >>= fun x2 =>
      Cm fu x2 >>= fun x4 =>
      Co fu t (IntKind.i64.wrap (n + x4)) (IntKind.i64.wrap (v24 + 1))
    else
      some (min n 33)
end
theorem D1g (fu : Nat) : (∀ (t : A0), Le (Cm fu t) (Qb t)) ∧ (∀ (t : A0) (n : Int) (v24 : Int), Le (Co fu t n v24) (Rb t n v24)) := by
  induction fu with
  | zero => exact ⟨fun _ => Le.none, fun _ _ _ => Le.none⟩
  | succ fu ih =>
    obtain ⟨ih0, ih1⟩ := ih
    refine ⟨fun t => ?_, fun t n v24 => ?_⟩
    · rw [Cm, Qb]
      repeat (first | exact Le.rfl | exact ih0 _ | exact ih1 _ _ _ | exact V0 _ | refine Le.bind ?_ (fun _ => ?_) | refine Le.ite ?_ ?_)
    · rw [Co, Rb]
      repeat (first | exact Le.rfl | exact ih0 _ | exact ih1 _ _ _ | exact V0 _ | refine Le.bind ?_ (fun _ => ?_) | refine Le.ite ?_ ?_)
theorem D1j (fu : Nat) (t : A0) : Le (Cm fu t) (Qb t) := (D1g fu).1 t
theorem O2e (fu : Nat) (t : A0) (n : Int) (v24 : Int) : Le (Co fu t n v24) (Rb t n v24) := (D1g fu).2 t n v24
def Qt (fu : Nat) (t : A0) (m : List (Str × A0)) : Option (A0 × Int) :=
  Hq fu t >>= fun x1 =>
  if (x1 != 0) = true then
    some ((A0.mk 0 0 0 0 [] [] []), x1)
  else
    Zn fu t m >>= fun x2 =>
    if (!x2.2) = true then
      some ((A0.mk 0 0 0 0 [] [] []), 7)
    else
      Pp fu x2.1 >>= fun x3 =>
      if x3 = true then
        some ((A0.mk 0 0 0 0 [] [] []), 8)
      else
        Hu fu x2.1 >>= fun x4 =>
        (if (!(decide (x4 > 12))) = true then Cm fu x2.1 else some default) >>= fun x5 =>
        if (bif (decide (x4 > 12)) then true else (decide (x5 > 32))) = true then
          some ((A0.mk 0 0 0 0 [] [] []), 4)
        else
          some (x2.1, 0)
theorem U1q (fu : Nat) (t : A0) (m : List (Str × A0)) : Le (Qt fu t m) (Bh t m) := by
  unfold Qt Bh
  repeat (first | exact Le.rfl | exact F16 fu _ | exact T1q fu _ _ | exact C1j fu _ | exact G1x fu _ | exact D1j fu _ | exact V0 _ | refine Le.bind ?_ (fun _ => ?_) | refine Le.ite ?_ ?_)
def Ti : Nat → (List B0) → A0 → (List (Str × A0)) → Int → Option (A0 × Int)
  | 0, _, _, _, _ => none
  | fu + 1, decls, t, m2, v16 =>
    if (decide (v16 < ((decls).length : Int))) = true then
      idx decls v16 >>= fun x1 =>
      if (x1.Kind != 0) = true then
        Ti fu decls t m2 (IntKind.i64.wrap (v16 + 1))
      else
        Rv fu x1.Name >>= fun x2 =>
        if (!x2) = true then
          some ((A0.mk 0 0 0 0 [] [] []), 7)
        else
          some (mgt x1.Name m2) >>= fun x3 =>
          if x3.isSome = true then
            some ((A0.mk 0 0 0 0 [] [] []), 8)
          else
            Qt fu x1.TypeV m2 >>= fun x4 =>
            if (x4.2 != 0) = true then
              some ((A0.mk 0 0 0 0 [] [] []), x4.2)
            else
              Ti fu decls t (mpt x1.Name x4.1 m2) (IntKind.i64.wrap (v16 + 1))
    else
      Qt fu t m2 >>= fun x5 =>
      some (x5.1, x5.2)
theorem M1m (fu : Nat) : (∀ (decls : List B0) (t : A0) (m2 : List (Str × A0)) (v16 : Int), Le (Ti fu decls t m2 v16) (J7 decls t m2 v16)) := by
  induction fu with
  | zero => exact fun _ _ _ _ => Le.none
  | succ fu ih =>
    have ih0 := ih
    refine fun decls t m2 v16 => ?_
    · rw [Ti, J7]
      repeat (first | exact Le.rfl | exact ih0 _ _ _ _ | exact N1e fu _ | exact U1q fu _ _ | exact V0 _ | refine Le.bind ?_ (fun _ => ?_) | refine Le.ite ?_ ?_)
theorem Q1o (fu : Nat) (decls : List B0) (t : A0) (m2 : List (Str × A0)) (v16 : Int) : Le (Ti fu decls t m2 v16) (J7 decls t m2 v16) := (M1m fu) decls t m2 v16
def B17 (fu : Nat) (decls : List B0) (t : A0) : Option (A0 × Int) :=
  Ti fu decls t [] 0
theorem I1v (fu : Nat) (decls : List B0) (t : A0) : Le (B17 fu decls t) (Sn decls t) := by
  unfold B17 Sn
  repeat (first | exact Le.rfl | exact Q1o fu _ _ _ _ | exact V0 _ | refine Le.bind ?_ (fun _ => ?_) | refine Le.ite ?_ ?_)
def Ib (fu : Nat) (c : F0) (t : A0) (before : Int) : Option (A0 × Int) :=
  slc c.p.Decls 0 before >>= fun x1 =>
  B17 fu x1 t >>= fun x2 =>
  some (x2.1, x2.2)
theorem Rf (fu : Nat) (c : F0) (t : A0) (before : Int) : Le (Ib fu c t before) (D5 c t before) := by
  unfold Ib D5
  repeat (first | exact Le.rfl | exact I1v fu _ _ | exact V0 _ | refine Le.bind ?_ (fun _ => ?_) | refine Le.ite ?_ ?_)
def Jh (fu : Nat) (t : A0) : Option Bool :=
  some (bif (t.Kind == 0) then true else (t.Kind == 1))
theorem Yf (fu : Nat) (t : A0) : Le (Jh fu t) (P7 t) := by
  unfold Jh P7
  repeat (first | exact Le.rfl | exact V0 _ | refine Le.bind ?_ (fun _ => ?_) | refine Le.ite ?_ ?_)
def Td (fu : Nat) (s : Option J0) : Option (List (Str × L0) × Option J0) :=
  some ([], s)
theorem E9 (fu : Nat) (s : Option J0) : Le (Td fu s) (B5 s) := by
  unfold Td B5
  repeat (first | exact Le.rfl | exact V0 _ | refine Le.bind ?_ (fun _ => ?_) | refine Le.ite ?_ ?_)
def R5 (fu : Nat) (c : F0) (t : A0) (before : Int) : Option A0 :=
  Ib fu c t before >>= fun x1 =>
  some x1.1
theorem X6 (fu : Nat) (c : F0) (t : A0) (before : Int) : Le (R5 fu c t before) (C3 c t before) := by
  unfold R5 C3
  repeat (first | exact Le.rfl | exact Rf fu _ _ _ | exact V0 _ | refine Le.bind ?_ (fun _ => ?_) | refine Le.ite ?_ ?_)
def Y6 : Nat → F0 → Bool → (List (Str × L0)) → (List (Str × L0) × Option J0) → (List B0) → Int → Option (Option J0)
  | 0, _, _, _, _, _, _ => none
  | fu + 1, c, variables, m0, x1, x2, v22 =>
    if (decide (v22 < ((x2).length : Int))) = true then
      idx x2 v22 >>= fun x3 =>
      if (bif (bif (bif (x3.Kind == 1) then true else (x3.Kind == 2)) then true else (x3.Kind == 3)) then true else (bif variables then (x3.Kind == 4) else false)) = true then
        R5 fu c x3.TypeV v22 >>= fun x4 =>
        Y6 fu c variables (mpt x3.Name (L0.mk x4 (bif (bif (x3.Kind == 1) then true else (x3.Kind == 2)) then true else (x3.Kind == 3))) m0) x1 x2 (IntKind.i64.wrap (v22 + 1))
      else
        Y6 fu c variables m0 x1 x2 (IntKind.i64.wrap (v22 + 1))
    else
      some (some (J0.mk x1.2 m0)) >>= fun x5 =>
      some x5
theorem K11 (fu : Nat) : (∀ (c : F0) (variables : Bool) (m0 : List (Str × L0)) (x1 : List (Str × L0) × Option J0) (x2 : List B0) (v22 : Int), Le (Y6 fu c variables m0 x1 x2 v22) (Q2 c variables m0 x1 x2 v22)) := by
  induction fu with
  | zero => exact fun _ _ _ _ _ _ => Le.none
  | succ fu ih =>
    have ih0 := ih
    refine fun c variables m0 x1 x2 v22 => ?_
    · rw [Y6, Q2]
      repeat (first | exact Le.rfl | exact ih0 _ _ _ _ _ _ | exact X6 fu _ _ _ | exact V0 _ | refine Le.bind ?_ (fun _ => ?_) | refine Le.ite ?_ ?_)
theorem Z13 (fu : Nat) (c : F0) (variables : Bool) (m0 : List (Str × L0)) (x1 : List (Str × L0) × Option J0) (x2 : List B0) (v22 : Int) : Le (Y6 fu c variables m0 x1 x2 v22) (Q2 c variables m0 x1 x2 v22) := (K11 fu) c variables m0 x1 x2 v22
def Jb (fu : Nat) (c : F0) (before : Int) (variables : Bool) : Option (Option J0) :=
  Td fu none >>= fun x1 =>
  slc c.p.Decls 0 before >>= fun x2 =>
  Y6 fu c variables x1.1 x1 x2 0
theorem Jl (fu : Nat) (c : F0) (before : Int) (variables : Bool) : Le (Jb fu c before variables) (E5 c before variables) := by
  unfold Jb E5
  repeat (first | exact Le.rfl | exact E9 fu _ | exact Z13 fu _ _ _ _ _ _ | exact V0 _ | refine Le.bind ?_ (fun _ => ?_) | refine Le.ite ?_ ?_)
def F4 (fu : Nat) (low : Int) (high : Int) : Option A0 :=
  some (A0.mk 1 low high 0 [] [] [])
theorem P6 (fu : Nat) (low : Int) (high : Int) : Le (F4 fu low high) (G3 low high) := by
  unfold F4 G3
  repeat (first | exact Le.rfl | exact V0 _ | refine Le.bind ?_ (fun _ => ?_) | refine Le.ite ?_ ?_)
def Do (fu : Nat) (t : A0) : Option (A0 × Int) :=
  if (bif (t.Kind == 1) then (bif (decide (t.Low < (-1048576))) then true else (decide (t.High > 1048576))) else false) = true then
    some ((A0.mk 0 0 0 0 [] [] []), 3)
  else
    some (t, 0)
theorem Er (fu : Nat) (t : A0) : Le (Do fu t) (Q9 t) := by
  unfold Do Q9
  repeat (first | exact Le.rfl | exact V0 _ | refine Le.bind ?_ (fun _ => ?_) | refine Le.ite ?_ ?_)
def Ta : Nat → Str → (Option J0) → Option (L0 × Bool)
  | 0, _, _ => none
  | fu + 1, name, s1 =>
    if (!s1.isNone) = true then
      s1 >>= fun x1 =>
      some (mgt name x1.vars) >>= fun x2 =>
      if x2.isSome = true then
        some ((x2.getD L0.zero), true)
      else
        s1 >>= fun x3 =>
        Ta fu name x3.around
    else
      some ((L0.mk (A0.mk 0 0 0 0 [] [] []) false), false)
theorem Y14 (fu : Nat) : (∀ (name : Str) (s1 : Option J0), Le (Ta fu name s1) (I3 name s1)) := by
  induction fu with
  | zero => exact fun _ _ => Le.none
  | succ fu ih =>
    have ih0 := ih
    refine fun name s1 => ?_
    · rw [Ta, I3]
      repeat (first | exact Le.rfl | exact ih0 _ _ | exact V0 _ | refine Le.bind ?_ (fun _ => ?_) | refine Le.ite ?_ ?_)
theorem C17 (fu : Nat) (name : Str) (s1 : Option J0) : Le (Ta fu name s1) (I3 name s1) := (Y14 fu) name s1
def Ud (fu : Nat) (s : Option J0) (name : Str) : Option (L0 × Bool) :=
  Ta fu name s
theorem Xm (fu : Nat) (s : Option J0) (name : Str) : Le (Ud fu s name) (Y5 s name) := by
  unfold Ud Y5
  repeat (first | exact Le.rfl | exact C17 fu _ _ | exact V0 _ | refine Le.bind ?_ (fun _ => ?_) | refine Le.ite ?_ ?_)
def Vd : Nat → A0 → Str → Int → Option (A0 × Int)
  | 0, _, _, _ => none
  | fu + 1, t, name, v15 =>
    if (decide (v15 < ((t.Names).length : Int))) = true then
      idx t.Names v15 >>= fun x1 =>
      if (x1 == name) = true then
        idx t.Of v15 >>= fun x2 =>
        some (x2, 0)
      else
        Vd fu t name (IntKind.i64.wrap (v15 + 1))
    else
      some ((A0.mk 0 0 0 0 [] [] []), 7)
theorem E1a (fu : Nat) : (∀ (t : A0) (name : Str) (v15 : Int), Le (Vd fu t name v15) (K4 t name v15)) := by
  induction fu with
  | zero => exact fun _ _ _ => Le.none
  | succ fu ih =>
    have ih0 := ih
    refine fun t name v15 => ?_
    · rw [Vd, K4]
      repeat (first | exact Le.rfl | exact ih0 _ _ _ | exact V0 _ | refine Le.bind ?_ (fun _ => ?_) | refine Le.ite ?_ ?_)
theorem A1c (fu : Nat) (t : A0) (name : Str) (v15 : Int) : Le (Vd fu t name v15) (K4 t name v15) := (E1a fu) t name v15
def Ks (fu : Nat) (t : A0) (name : Str) : Option (A0 × Int) :=
  if (t.Kind != 3) = true then
    some ((A0.mk 0 0 0 0 [] [] []), 9)
  else
    Vd fu t name 0
theorem B1h (fu : Nat) (t : A0) (name : Str) : Le (Ks fu t name) (V7 t name) := by
  unfold Ks V7
  repeat (first | exact Le.rfl | exact A1c fu _ _ _ | exact V0 _ | refine Le.bind ?_ (fun _ => ?_) | refine Le.ite ?_ ?_)
def Kb : Nat → Int → (List A0) → Int → Option Bool
  | 0, _, _, _ => none
  | fu + 1, k, l, v9 =>
    if (decide (v9 < ((l).length : Int))) = true then
      idx l v9 >>= fun x1 =>
      if (x1.Kind != k) = true then
        some false
      else
        Kb fu k l (IntKind.i64.wrap (v9 + 1))
    else
      some true
theorem D17 (fu : Nat) : (∀ (k : Int) (l : List A0) (v9 : Int), Le (Kb fu k l v9) (R3 k l v9)) := by
  induction fu with
  | zero => exact fun _ _ _ => Le.none
  | succ fu ih =>
    have ih0 := ih
    refine fun k l v9 => ?_
    · rw [Kb, R3]
      repeat (first | exact Le.rfl | exact ih0 _ _ _ | exact V0 _ | refine Le.bind ?_ (fun _ => ?_) | refine Le.ite ?_ ?_)
theorem N19 (fu : Nat) (k : Int) (l : List A0) (v9 : Int) : Le (Kb fu k l v9) (R3 k l v9) := (D17 fu) k l v9
def Xa (fu : Nat) (k : Int) (l : List A0) : Option Bool :=
  Kb fu k l 0
theorem Ix (fu : Nat) (k : Int) (l : List A0) : Le (Xa fu k l) (L6 k l) := by
  unfold Xa L6
  repeat (first | exact Le.rfl | exact N19 fu _ _ _ | exact V0 _ | refine Le.bind ?_ (fun _ => ?_) | refine Le.ite ?_ ?_)
def Ls (fu : Nat) (t : A0) : Option Int :=
  some (max t.High (IntKind.i64.wrap (0 - t.Low)))
theorem C1h (fu : Nat) (t : A0) : Le (Ls fu t) (Tf t) := by
  unfold Ls Tf
  repeat (first | exact Le.rfl | exact V0 _ | refine Le.bind ?_ (fun _ => ?_) | refine Le.ite ?_ ?_)
def Mh (fu : Nat) (low : Int) (high : Int) : Option A0 :=
  F4 fu low high >>= fun x7 =>
  some x7
theorem F1a (fu : Nat) (low : Int) (high : Int) : Le (Mh fu low high) (I8 low high) := by
  unfold Mh I8
  repeat (first | exact Le.rfl | exact P6 fu _ _ | exact V0 _ | refine Le.bind ?_ (fun _ => ?_) | refine Le.ite ?_ ?_)
def Nh (fu : Nat) (b : A0) (low : Int) : Option A0 :=
  if (decide (b.High > 0)) = true then
    Mh fu low (max (IntKind.i64.wrap (b.High - 1)) 0)
  else
    Mh fu low 0
theorem G1a (fu : Nat) (b : A0) (low : Int) : Le (Nh fu b low) (J8 b low) := by
  unfold Nh J8
  repeat (first | exact Le.rfl | exact F1a fu _ _ | exact V0 _ | refine Le.bind ?_ (fun _ => ?_) | refine Le.ite ?_ ?_)
def Uq (fu : Nat) (op : Int) (a : A0) (b : A0) : Option A0 :=
  if (op == 8) = true then
    F4 fu (IntKind.i64.wrap (a.Low + b.Low)) (IntKind.i64.wrap (a.High + b.High)) >>= fun x1 =>
    some x1
  else
    if (op == 9) = true then
      F4 fu (IntKind.i64.wrap (a.Low - b.High)) (IntKind.i64.wrap (a.High - b.Low)) >>= fun x2 =>
      some x2
    else
      if (op == 10) = true then
        F4 fu (min (min (min (IntKind.i64.wrap (a.Low * b.Low)) (IntKind.i64.wrap (a.Low * b.High))) (IntKind.i64.wrap (a.High * b.Low))) (IntKind.i64.wrap (a.High * b.High))) (max (max (max (IntKind.i64.wrap (a.Low * b.Low)) (IntKind.i64.wrap (a.Low * b.High))) (IntKind.i64.wrap (a.High * b.Low))) (IntKind.i64.wrap (a.High * b.High))) >>= fun x3 =>
        some x3
      else
        if (op == 11) = true then
          Ls fu a >>= fun x4 =>
          if (bif (decide (a.Low ≥ 0)) then (decide (b.Low ≥ 0)) else false) = true then
            F4 fu 0 x4 >>= fun x5 =>
            some x5
          else
            F4 fu (IntKind.i64.wrap (0 - x4)) x4 >>= fun x6 =>
            some x6
        else
          if (op == 12) = true then
            if (decide (b.Low < 0)) = true then
              Nh fu b (min (IntKind.i64.wrap (b.Low + 1)) 0)
            else
              Nh fu b 0
          else
            if (op == 21) = true then
              F4 fu (min a.Low b.Low) (min a.High b.High) >>= fun x8 =>
              some x8
            else
              F4 fu (max a.Low b.Low) (max a.High b.High) >>= fun x9 =>
              some x9
theorem Y1e (fu : Nat) (op : Int) (a : A0) (b : A0) : Le (Uq fu op a b) (P8 op a b) := by
  unfold Uq P8
  repeat (first | exact Le.rfl | exact P6 fu _ _ | exact C1h fu _ | exact G1a fu _ _ | exact V0 _ | refine Le.bind ?_ (fun _ => ?_) | refine Le.ite ?_ ?_)
def Z9 (fu : Nat) (op : Int) (kids : List A0) (x1 : Bool) (v60 : Bool) : Option (A0 × Int) :=
  if v60 = true then
    if x1 = true then
      some ((A0.mk 0 0 0 0 [] [] []), 0)
    else
      some ((A0.mk 0 0 0 0 [] [] []), 9)
  else
    if (op == 23) = true then
      slc kids 1 ((kids).length : Int) >>= fun x7 =>
      idx kids 0 >>= fun x8 =>
      if (x8.Kind != 0) = true then
        some ((A0.mk 0 0 0 0 [] [] []), 9)
      else
        Xa fu 1 x7 >>= fun x9 =>
        if x9 = true then
          idx x7 0 >>= fun x10 =>
          idx x7 1 >>= fun x11 =>
          idx x7 0 >>= fun x12 =>
          idx x7 1 >>= fun x13 =>
          F4 fu (min x10.Low x11.Low) (max x12.High x13.High) >>= fun x14 =>
          some (x14, 0)
        else
          Xa fu 0 x7 >>= fun x15 =>
          if x15 = true then
            some ((A0.mk 0 0 0 0 [] [] []), 0)
          else
            some ((A0.mk 0 0 0 0 [] [] []), 9)
    else
      if x1 = true then
        idx kids 0 >>= fun x16 =>
        idx kids 1 >>= fun x17 =>
        Uq fu op x16 x17 >>= fun x18 =>
        Do fu x18 >>= fun x19 =>
        some (x19.1, x19.2)
      else
        some ((A0.mk 0 0 0 0 [] [] []), 9)
theorem B1c (fu : Nat) (op : Int) (kids : List A0) (x1 : Bool) (v60 : Bool) : Le (Z9 fu op kids x1 v60) (F7 op kids x1 v60) := by
  unfold Z9 F7
  repeat (first | exact Le.rfl | exact Ix fu _ _ | exact P6 fu _ _ | exact Y1e fu _ _ _ | exact Er fu _ | exact V0 _ | refine Le.bind ?_ (fun _ => ?_) | refine Le.ite ?_ ?_)
def Fi (fu : Nat) (op : Int) (kids : List A0) (x1 : Bool) (x2 : Bool) (v52 : Bool) : Option (A0 × Int) :=
  if v52 = true then
    if (bif x1 then true else x2) = true then
      some ((A0.mk 0 0 0 0 [] [] []), 0)
    else
      some ((A0.mk 0 0 0 0 [] [] []), 9)
  else
    if (op == 15) = true then
      Z9 fu op kids x1 (op == 15)
    else
      if (op == 16) = true then
        Z9 fu op kids x1 (op == 16)
      else
        if (op == 17) = true then
          Z9 fu op kids x1 (op == 17)
        else
          Z9 fu op kids x1 (op == 18)
theorem C1c (fu : Nat) (op : Int) (kids : List A0) (x1 : Bool) (x2 : Bool) (v52 : Bool) : Le (Fi fu op kids x1 x2 v52) (Sb op kids x1 x2 v52) := by
  unfold Fi Sb
  repeat (first | exact Le.rfl | exact B1c fu _ _ _ _ | exact V0 _ | refine Le.bind ?_ (fun _ => ?_) | refine Le.ite ?_ ?_)
def Wd (fu : Nat) (op : Int) (kids : List A0) (x1 : Bool) (x2 : Bool) (v46 : Bool) : Option (A0 × Int) :=
  if v46 = true then
    if x2 = true then
      some ((A0.mk 0 0 0 0 [] [] []), 0)
    else
      some ((A0.mk 0 0 0 0 [] [] []), 9)
  else
    if (op == 13) = true then
      Fi fu op kids x1 x2 (op == 13)
    else
      Fi fu op kids x1 x2 (op == 14)
theorem D1c (fu : Nat) (op : Int) (kids : List A0) (x1 : Bool) (x2 : Bool) (v46 : Bool) : Le (Wd fu op kids x1 x2 v46) (G7 op kids x1 x2 v46) := by
  unfold Wd G7
  repeat (first | exact Le.rfl | exact C1c fu _ _ _ _ _ | exact V0 _ | refine Le.bind ?_ (fun _ => ?_) | refine Le.ite ?_ ?_)
def Ms (fu : Nat) (op : Int) (kids : List A0) : Option (A0 × Int) :=
  Xa fu 1 kids >>= fun x1 =>
  Xa fu 0 kids >>= fun x2 =>
  if (op == 6) = true then
    if x1 = true then
      idx kids 0 >>= fun x3 =>
      idx kids 0 >>= fun x4 =>
      F4 fu (IntKind.i64.wrap (0 - x3.High)) (IntKind.i64.wrap (0 - x4.Low)) >>= fun x5 =>
      Do fu x5 >>= fun x6 =>
      some (x6.1, x6.2)
    else
      some ((A0.mk 0 0 0 0 [] [] []), 9)
  else
    if (op == 7) = true then
      Wd fu op kids x1 x2 (op == 7)
    else
      if (op == 19) = true then
        Wd fu op kids x1 x2 (op == 19)
      else
        Wd fu op kids x1 x2 (op == 20)
theorem D1h (fu : Nat) (op : Int) (kids : List A0) : Le (Ms fu op kids) (J9 op kids) := by
  unfold Ms J9
  repeat (first | exact Le.rfl | exact Ix fu _ _ | exact P6 fu _ _ | exact Er fu _ | exact D1c fu _ _ _ _ _ | exact V0 _ | refine Le.bind ?_ (fun _ => ?_) | refine Le.ite ?_ ?_)
def So (fu : Nat) (s : Option J0) (e : C0) (kids1 : List A0) (v51 : Bool) : Option (A0 × Int) :=
  if v51 = true then
    some ((A0.mk 0 0 0 0 [] [] []), 0)
  else
    if (e.Op == 3) = true then
      Ud fu s e.Name >>= fun x4 =>
      if (!x4.2) = true then
        some ((A0.mk 0 0 0 0 [] [] []), 7)
      else
        some (x4.1.typ, 0)
    else
      if (e.Op == 4) = true then
        idx kids1 0 >>= fun x5 =>
        Ks fu x5 e.Name >>= fun x6 =>
        some (x6.1, x6.2)
      else
        if (e.Op == 5) = true then
          idx kids1 0 >>= fun x7 =>
          (if (!(x7.Kind != 2)) = true then idx kids1 1 else some default) >>= fun x8 =>
          if (bif (x7.Kind != 2) then true else (x8.Kind != 1)) = true then
            some ((A0.mk 0 0 0 0 [] [] []), 9)
          else
            idx kids1 0 >>= fun x9 =>
            idx x9.Of 0 >>= fun x10 =>
            some (x10, 0)
        else
          Ms fu e.Op kids1 >>= fun x11 =>
          some (x11.1, x11.2)
theorem A14 (fu : Nat) (s : Option J0) (e : C0) (kids1 : List A0) (v51 : Bool) : Le (So fu s e kids1 v51) (M9 s e kids1 v51) := by
  unfold So M9
  repeat (first | exact Le.rfl | exact Xm fu _ _ | exact B1h fu _ _ | exact D1h fu _ _ | exact V0 _ | refine Le.bind ?_ (fun _ => ?_) | refine Le.ite ?_ ?_)
mutual
def Fb : Nat → (Option J0) → C0 → Option (A0 × Int)
  | 0, _, _ => none
  | fu + 1, s, e =>
    if (decide (0 ≤ ((e.Kids).length : Int) ∧ ((e.Kids).length : Int).toNat * 97 ≤ 140737488355328)) = true then
      Pj fu s e [] 0
    else none
def Pj : Nat → (Option J0) → C0 → (List A0) → Int → Option (A0 × Int)
  | 0, _, _, _, _ => none
  | fu + 1, s, e, kids, v20 =>
    if (decide (v20 < ((e.Kids).length : Int))) = true then
      idx e.Kids v20 >>= fun x1 =>
      Fb fu s x1 >>= fun x12 =>
      if (x12.2 != 0) = true then
        some ((A0.mk 0 0 0 0 [] [] []), x12.2)
      else
        if (decide ((kids.length + 1) * 97 ≤ 140737488355328)) = true then
          Pj fu s e (kids ++ [x12.1]) (IntKind.i64.wrap (v20 + 1))
        else none
    else
      if (e.Op == 0) = true then
        F4 fu e.NV e.NV >>= fun x2 =>
        Do fu x2 >>= fun x3 =>
        some (x3.1, x3.2)
      else
        if (e.Op == 1) = true then
          So fu s e kids (e.Op == 1)
        else
          So fu s e kids (e.Op == 2)
end
theorem O19 (fu : Nat) : (∀ (s : Option J0) (e : C0), Le (Fb fu s e) (G4 s e)) ∧ (∀ (s : Option J0) (e : C0) (kids : List A0) (v20 : Int), Le (Pj fu s e kids v20) (C8 s e kids v20)) := by
  induction fu with
  | zero => exact ⟨fun _ _ => Le.none, fun _ _ _ _ => Le.none⟩
  | succ fu ih =>
    obtain ⟨ih0, ih1⟩ := ih
    refine ⟨fun s e => ?_, fun s e kids v20 => ?_⟩
    · rw [Fb, G4]
      repeat (first | exact Le.rfl | exact ih0 _ _ | exact ih1 _ _ _ _ | exact P6 fu _ _ | exact Er fu _ | exact A14 fu _ _ _ _ | exact V0 _ | refine Le.bind ?_ (fun _ => ?_) | refine Le.ite ?_ ?_)
    · rw [Pj, C8]
      repeat (first | exact Le.rfl | exact ih0 _ _ | exact ih1 _ _ _ _ | exact P6 fu _ _ | exact Er fu _ | exact A14 fu _ _ _ _ | exact V0 _ | refine Le.bind ?_ (fun _ => ?_) | refine Le.ite ?_ ?_)
theorem Bc (fu : Nat) (s : Option J0) (e : C0) : Le (Fb fu s e) (G4 s e) := (O19 fu).1 s e
theorem R29 (fu : Nat) (s : Option J0) (e : C0) (kids : List A0) (v20 : Int) : Le (Pj fu s e kids v20) (C8 s e kids v20) := (O19 fu).2 s e kids v20
def Av (fu : Nat) (e : C0) : Option Bool :=
  some (bif (bif (e.Op == 3) then true else (e.Op == 4)) then true else (e.Op == 5))
theorem Q1k (fu : Nat) (e : C0) : Le (Av fu e) (Qi e) := by
  unfold Av Qi
  repeat (first | exact Le.rfl | exact V0 _ | refine Le.bind ?_ (fun _ => ?_) | refine Le.ite ?_ ?_)
mutual
def Iu : Nat → A0 → A0 → Option Bool
  | 0, _, _ => none
  | fu + 1, a, b =>
    (if (bif (bif (bif (bif (a.Kind == b.Kind) then (a.Low == b.Low) else false) then (a.High == b.High) else false) then (a.Size == b.Size) else false) then (a.Name == b.Name) else false) = true then Ee fu a.Names b.Names else some default) >>= fun x1 =>
    (if (bif (bif (bif (bif (bif (a.Kind == b.Kind) then (a.Low == b.Low) else false) then (a.High == b.High) else false) then (a.Size == b.Size) else false) then (a.Name == b.Name) else false) then x1 else false) = true then Y3 fu a.Of b.Of else some default) >>= fun x2 =>
    some (bif (bif (bif (bif (bif (bif (a.Kind == b.Kind) then (a.Low == b.Low) else false) then (a.High == b.High) else false) then (a.Size == b.Size) else false) then (a.Name == b.Name) else false) then x1 else false) then x2 else false)
def Y3 : Nat → (List A0) → (List A0) → Option Bool
  | 0, _, _ => none
  | fu + 1, s1, s2 =>
    if (((s1).length : Int) != ((s2).length : Int)) = true then
      some false
    else
      L2 fu s1 s2 0
def L2 : Nat → (List A0) → (List A0) → Int → Option Bool
  | 0, _, _, _ => none
  | fu + 1, s1, s2, v17 =>
    if (decide (v17 < ((s1).length : Int))) = true then
      idx s1 v17 >>= fun x1 =>
      idx s2 v17 >>= fun x2 =>
      Iu fu x1 x2 >>= fun x3 =>
      if (!x3) = true then
        some false
      else
        L2 fu s1 s2 (IntKind.i64.wrap (v17 + 1))
    else
      some true
end
theorem B14 (fu : Nat) : (∀ (a : A0) (b : A0), Le (Iu fu a b) (Cg a b)) ∧ (∀ (s1 : List A0) (s2 : List A0), Le (Y3 fu s1 s2) (L1 s1 s2)) ∧ (∀ (s1 : List A0) (s2 : List A0) (v17 : Int), Le (L2 fu s1 s2 v17) (C1 s1 s2 v17)) := by
  induction fu with
  | zero => exact ⟨fun _ _ => Le.none, fun _ _ => Le.none, fun _ _ _ => Le.none⟩
  | succ fu ih =>
    obtain ⟨ih0, ih1, ih2⟩ := ih
    refine ⟨fun a b => ?_, fun s1 s2 => ?_, fun s1 s2 v17 => ?_⟩
    · rw [Iu, Cg]
      repeat (first | exact Le.rfl | exact ih0 _ _ | exact ih1 _ _ | exact ih2 _ _ _ | exact W6 fu _ _ | exact V0 _ | refine Le.bind ?_ (fun _ => ?_) | refine Le.ite ?_ ?_)
    · rw [Y3, L1]
      repeat (first | exact Le.rfl | exact ih0 _ _ | exact ih1 _ _ | exact ih2 _ _ _ | exact W6 fu _ _ | exact V0 _ | refine Le.bind ?_ (fun _ => ?_) | refine Le.ite ?_ ?_)
    · rw [L2, C1]
      repeat (first | exact Le.rfl | exact ih0 _ _ | exact ih1 _ _ | exact ih2 _ _ _ | exact W6 fu _ _ | exact V0 _ | refine Le.bind ?_ (fun _ => ?_) | refine Le.ite ?_ ?_)
theorem H1x (fu : Nat) (a : A0) (b : A0) : Le (Iu fu a b) (Cg a b) := (B14 fu).1 a b
theorem Z14 (fu : Nat) (s1 : List A0) (s2 : List A0) : Le (Y3 fu s1 s2) (L1 s1 s2) := (B14 fu).2.1 s1 s2
theorem M11 (fu : Nat) (s1 : List A0) (s2 : List A0) (v17 : Int) : Le (L2 fu s1 s2 v17) (C1 s1 s2 v17) := (B14 fu).2.2 s1 s2 v17
def Kg (fu : Nat) (fromV : A0) (to : A0) (place : Bool) : Option Bool :=
  Jh fu fromV >>= fun x1 =>
  (if (!x1) = true then Jh fu to else some default) >>= fun x2 =>
  if (bif x1 then true else x2) = true then
    some (fromV.Kind == to.Kind)
  else
    (if place = true then Iu fu fromV to else some default) >>= fun x3 =>
    some (bif place then x3 else false)
theorem Ep (fu : Nat) (fromV : A0) (to : A0) (place : Bool) : Le (Kg fu fromV to place) (C7 fromV to place) := by
  unfold Kg C7
  repeat (first | exact Le.rfl | exact Yf fu _ | exact H1x fu _ _ | exact V0 _ | refine Le.bind ?_ (fun _ => ?_) | refine Le.ite ?_ ?_)
def Ui (fu : Nat) (s : Option J0) (e : C0) (to : A0) : Option Int :=
  Fb fu s e >>= fun x1 =>
  (if (x1.2 == 0) = true then Av fu e else some default) >>= fun x2 =>
  (if (x1.2 == 0) = true then Kg fu x1.1 to x2 else some default) >>= fun x3 =>
  if (bif (x1.2 == 0) then (!x3) else false) = true then
    some 9
  else
    some x1.2
theorem Ua (fu : Nat) (s : Option J0) (e : C0) (to : A0) : Le (Ui fu s e to) (Da s e to) := by
  unfold Ui Da
  repeat (first | exact Le.rfl | exact Bc fu _ _ | exact Q1k fu _ | exact Ep fu _ _ _ | exact V0 _ | refine Le.bind ?_ (fun _ => ?_) | refine Le.ite ?_ ?_)
def Qj : Nat → C0 → Option Str
  | 0, _ => none
  | fu + 1, o0 =>
    if (bif (o0.Op != 3) then (decide (((o0.Kids).length : Int) > 0)) else false) = true then
      idx o0.Kids 0 >>= fun x1 =>
      Qj fu x1
    else
      some o0.Name
theorem E1j (fu : Nat) : (∀ (o0 : C0), Le (Qj fu o0) (U6 o0)) := by
  induction fu with
  | zero => exact fun _ => Le.none
  | succ fu ih =>
    have ih0 := ih
    refine fun o0 => ?_
    · rw [Qj, U6]
      repeat (first | exact Le.rfl | exact ih0 _ | exact V0 _ | refine Le.bind ?_ (fun _ => ?_) | refine Le.ite ?_ ?_)
theorem R1k (fu : Nat) (o0 : C0) : Le (Qj fu o0) (U6 o0) := (E1j fu) o0
def V10 (fu : Nat) (e : C0) : Option Str :=
  Qj fu e
theorem V1q (fu : Nat) (e : C0) : Le (V10 fu e) (Hn e) := by
  unfold V10 Hn
  repeat (first | exact Le.rfl | exact R1k fu _ | exact V0 _ | refine Le.bind ?_ (fun _ => ?_) | refine Le.ite ?_ ?_)
def Kl (fu : Nat) (s : Option J0) (e : C0) : Option (A0 × Int) :=
  Fb fu s e >>= fun x1 =>
  if (x1.2 != 0) = true then
    some ((A0.mk 0 0 0 0 [] [] []), x1.2)
  else
    V10 fu e >>= fun x2 =>
    Ud fu s x2 >>= fun x3 =>
    if x3.1.fixed = true then
      some ((A0.mk 0 0 0 0 [] [] []), 15)
    else
      some (x1.1, 0)
theorem Zf (fu : Nat) (s : Option J0) (e : C0) : Le (Kl fu s e) (Ya s e) := by
  unfold Kl Ya
  repeat (first | exact Le.rfl | exact Bc fu _ _ | exact V1q fu _ | exact Xm fu _ _ | exact V0 _ | refine Le.bind ?_ (fun _ => ?_) | refine Le.ite ?_ ?_)
def Va : Nat → Int → Str → (List B0) → Int → Option Int
  | 0, _, _, _, _ => none
  | fu + 1, kind, name, x1, v19 =>
    if (decide (v19 < ((x1).length : Int))) = true then
      idx x1 v19 >>= fun x2 =>
      if (bif (x2.Kind == kind) then (x2.Name == name) else false) = true then
        some v19
      else
        Va fu kind name x1 (IntKind.i64.wrap (v19 + 1))
    else
      some (-1)
theorem A15 (fu : Nat) : (∀ (kind : Int) (name : Str) (x1 : List B0) (v19 : Int), Le (Va fu kind name x1 v19) (J3 kind name x1 v19)) := by
  induction fu with
  | zero => exact fun _ _ _ _ => Le.none
  | succ fu ih =>
    have ih0 := ih
    refine fun kind name x1 v19 => ?_
    · rw [Va, J3]
      repeat (first | exact Le.rfl | exact ih0 _ _ _ _ | exact V0 _ | refine Le.bind ?_ (fun _ => ?_) | refine Le.ite ?_ ?_)
theorem E17 (fu : Nat) (kind : Int) (name : Str) (x1 : List B0) (v19 : Int) : Le (Va fu kind name x1 v19) (J3 kind name x1 v19) := (A15 fu) kind name x1 v19
def Gi (fu : Nat) (c : F0) (kind : Int) (name : Str) (limit : Int) : Option Int :=
  slc c.p.Decls 0 limit >>= fun x1 =>
  Va fu kind name x1 0
theorem Sv (fu : Nat) (c : F0) (kind : Int) (name : Str) (limit : Int) : Le (Gi fu c kind name limit) (H7 c kind name limit) := by
  unfold Gi H7
  repeat (first | exact Le.rfl | exact E17 fu _ _ _ _ | exact V0 _ | refine Le.bind ?_ (fun _ => ?_) | refine Le.ite ?_ ?_)
def Wa : Nat → F0 → (Option J0) → D0 → (A0 × Int) → B0 → Int → Int → Option Int
  | 0, _, _, _, _, _, _, _ => none
  | fu + 1, c, s, x, x1, x3, x2, v52 =>
    if (decide (v52 < ((x.Args).length : Int))) = true then
      idx x.Args v52 >>= fun x4 =>
      idx x3.Params v52 >>= fun x5 =>
      R5 fu c x5.TypeV x2 >>= fun x6 =>
      Ui fu s x4 x6 >>= fun x7 =>
      if (x7 != 0) = true then
        some x7
      else
        Wa fu c s x x1 x3 x2 (IntKind.i64.wrap (v52 + 1))
    else
      R5 fu c x3.TypeV x2 >>= fun x8 =>
      Kg fu x8 x1.1 true >>= fun x9 =>
      if (!x9) = true then
        some 9
      else
        some 0
theorem B15 (fu : Nat) : (∀ (c : F0) (s : Option J0) (x : D0) (x1 : A0 × Int) (x3 : B0) (x2 : Int) (v52 : Int), Le (Wa fu c s x x1 x3 x2 v52) (K3 c s x x1 x3 x2 v52)) := by
  induction fu with
  | zero => exact fun _ _ _ _ _ _ _ => Le.none
  | succ fu ih =>
    have ih0 := ih
    refine fun c s x x1 x3 x2 v52 => ?_
    · rw [Wa, K3]
      repeat (first | exact Le.rfl | exact ih0 _ _ _ _ _ _ _ | exact X6 fu _ _ _ | exact Ua fu _ _ _ | exact Ep fu _ _ _ | exact V0 _ | refine Le.bind ?_ (fun _ => ?_) | refine Le.ite ?_ ?_)
theorem F17 (fu : Nat) (c : F0) (s : Option J0) (x : D0) (x1 : A0 × Int) (x3 : B0) (x2 : Int) (v52 : Int) : Le (Wa fu c s x x1 x3 x2 v52) (K3 c s x x1 x3 x2 v52) := (B15 fu) c s x x1 x3 x2 v52
def Eo (fu : Nat) (c : F0) (s : Option J0) (x : D0) : Option Int :=
  Kl fu s x.Place >>= fun x1 =>
  if (x1.2 != 0) = true then
    some x1.2
  else
    Gi fu c 6 x.Name c.atV >>= fun x2 =>
    if (decide (x2 < 0)) = true then
      some 7
    else
      idx c.p.Decls x2 >>= fun x3 =>
      if (((x.Args).length : Int) != ((x3.Params).length : Int)) = true then
        some 2
      else
        Wa fu c s x x1 x3 x2 0
theorem Oh (fu : Nat) (c : F0) (s : Option J0) (x : D0) : Le (Eo fu c s x) (A9 c s x) := by
  unfold Eo A9
  repeat (first | exact Le.rfl | exact Zf fu _ _ | exact Sv fu _ _ _ _ | exact F17 fu _ _ _ _ _ _ _ | exact V0 _ | refine Le.bind ?_ (fun _ => ?_) | refine Le.ite ?_ ?_)
def Ll (fu : Nat) (c : F0) (s : Option J0) (x : D0) : Option Int :=
  Kl fu s x.Place >>= fun x1 =>
  if (x1.2 != 0) = true then
    some x1.2
  else
    if c.localV = true then
      some 15
    else
      Gi fu c 5 x.Name c.atV >>= fun x2 =>
      if (decide (x2 < 0)) = true then
        some 7
      else
        idx c.p.Decls x2 >>= fun x3 =>
        R5 fu c x3.TypeV x2 >>= fun x4 =>
        Kg fu x4 x1.1 false >>= fun x5 =>
        if (!x5) = true then
          some 9
        else
          some 0
theorem Ge (fu : Nat) (c : F0) (s : Option J0) (x : D0) : Le (Ll fu c s x) (D7 c s x) := by
  unfold Ll D7
  repeat (first | exact Le.rfl | exact Zf fu _ _ | exact Sv fu _ _ _ _ | exact X6 fu _ _ _ | exact Ep fu _ _ _ | exact V0 _ | refine Le.bind ?_ (fun _ => ?_) | refine Le.ite ?_ ?_)
def Wl (fu : Nat) (s : Option J0) (e : C0) : Option Int :=
  Fb fu s e >>= fun x1 =>
  if (bif (x1.2 == 0) then (x1.1.Kind != 0) else false) = true then
    some 9
  else
    some x1.2
theorem Jk (fu : Nat) (s : Option J0) (e : C0) : Le (Wl fu s e) (L9 s e) := by
  unfold Wl L9
  repeat (first | exact Le.rfl | exact Bc fu _ _ | exact V0 _ | refine Le.bind ?_ (fun _ => ?_) | refine Le.ite ?_ ?_)
def Ns (fu : Nat) (s : Option J0) (name : Str) : Option Bool :=
  Ud fu s name >>= fun x1 =>
  some x1.2
theorem Kk (fu : Nat) (s : Option J0) (name : Str) : Le (Ns fu s name) (Uf s name) := by
  unfold Ns Uf
  repeat (first | exact Le.rfl | exact Xm fu _ _ | exact V0 _ | refine Le.bind ?_ (fun _ => ?_) | refine Le.ite ?_ ?_)
mutual
def R4 : Nat → F0 → (Option J0) → (List D0) → Bool → Option Int
  | 0, _, _, _, _ => none
  | fu + 1, c, s, l, top =>
    Aa fu c s l top 0
def Aa : Nat → F0 → (Option J0) → (List D0) → Bool → Int → Option Int
  | 0, _, _, _, _, _ => none
  | fu + 1, c, s, l, top, v14 =>
    if (decide (v14 < ((l).length : Int))) = true then
      idx l v14 >>= fun x1 =>
      Hi fu c s x1 (bif top then (v14 == (IntKind.i64.wrap (((l).length : Int) - 1))) else false) >>= fun x2 =>
      if (x2 != 0) = true then
        some x2
      else
        Aa fu c s l top (IntKind.i64.wrap (v14 + 1))
    else
      some 0
def Hi : Nat → F0 → (Option J0) → D0 → Bool → Option Int
  | 0, _, _, _, _ => none
  | fu + 1, c, s, x, last =>
    if (x.Verb == 0) = true then
      Kl fu s x.Place >>= fun x1 =>
      if (x1.2 != 0) = true then
        some x1.2
      else
        Ui fu s x.Value x1.1 >>= fun x2 =>
        some x2
    else
      if (x.Verb == 1) = true then
        Eo fu c s x >>= fun x3 =>
        some x3
      else
        if (x.Verb == 2) = true then
          Ll fu c s x >>= fun x4 =>
          some x4
        else
          if (x.Verb == 3) = true then
            Fb fu s x.Value >>= fun x5 =>
            (if (x5.2 == 0) = true then Jh fu x5.1 else some default) >>= fun x6 =>
            if (bif (x5.2 == 0) then (!x6) else false) = true then
              some 9
            else
              some x5.2
          else
            if (x.Verb == 5) = true then
              Wl fu s x.Value >>= fun x7 =>
              if (x7 != 0) = true then
                some x7
              else
                R4 fu c s x.Then false >>= fun x10 =>
                if (x10 != 0) = true then
                  some x10
                else
                  R4 fu c s x.Else false >>= fun x11 =>
                  some x11
            else
              if (x.Verb == 6) = true then
                Wl fu s x.Value >>= fun x8 =>
                if (x8 != 0) = true then
                  some x8
                else
                  R4 fu c s x.Then false >>= fun x12 =>
                  some x12
              else
                if (x.Verb == 7) = true then
                  Ii fu c s x >>= fun x9 =>
                  some x9
                else
                  if (x.Verb == 8) = true then
                    if (!last) = true then
                      some 15
                    else
                      some 0
                  else
                    some 0
def Ii : Nat → F0 → (Option J0) → D0 → Option Int
  | 0, _, _, _ => none
  | fu + 1, c, s, x =>
    some (mgt x.Name c.names) >>= fun x1 =>
    (if (!(x1.getD ebool.zero)) = true then Ns fu s x.Name else some default) >>= fun x2 =>
    if (bif (x1.getD ebool.zero) then true else x2) = true then
      some 8
    else
      Td fu s >>= fun x3 =>
      F4 fu x.Low x.High >>= fun x4 =>
      some (some (J0.mk x3.2 (mpt x.Name (L0.mk x4 true) x3.1))) >>= fun x5 =>
      R4 fu c x5 x.Then false >>= fun x6 =>
      some x6
end
theorem Sf (fu : Nat) : (∀ (c : F0) (s : Option J0) (l : List D0) (top : Bool), Le (R4 fu c s l top) (D2 c s l top)) ∧ (∀ (c : F0) (s : Option J0) (l : List D0) (top : Bool) (v14 : Int), Le (Aa fu c s l top v14) (U3 c s l top v14)) ∧ (∀ (c : F0) (s : Option J0) (x : D0) (last : Bool), Le (Hi fu c s x last) (E3 c s x last)) ∧ (∀ (c : F0) (s : Option J0) (x : D0), Le (Ii fu c s x) (B9 c s x)) := by
  induction fu with
  | zero => exact ⟨fun _ _ _ _ => Le.none, fun _ _ _ _ _ => Le.none, fun _ _ _ _ => Le.none, fun _ _ _ => Le.none⟩
  | succ fu ih =>
    obtain ⟨ih0, ih1, ih2, ih3⟩ := ih
    refine ⟨fun c s l top => ?_, fun c s l top v14 => ?_, fun c s x last => ?_, fun c s x => ?_⟩
    · rw [R4, D2]
      repeat (first | exact Le.rfl | exact ih0 _ _ _ _ | exact ih1 _ _ _ _ _ | exact ih2 _ _ _ _ | exact ih3 _ _ _ | exact Zf fu _ _ | exact Ua fu _ _ _ | exact Oh fu _ _ _ | exact Ge fu _ _ _ | exact Bc fu _ _ | exact Yf fu _ | exact Jk fu _ _ | exact Kk fu _ _ | exact E9 fu _ | exact P6 fu _ _ | exact V0 _ | refine Le.bind ?_ (fun _ => ?_) | refine Le.ite ?_ ?_)
    · rw [Aa, U3]
      repeat (first | exact Le.rfl | exact ih0 _ _ _ _ | exact ih1 _ _ _ _ _ | exact ih2 _ _ _ _ | exact ih3 _ _ _ | exact Zf fu _ _ | exact Ua fu _ _ _ | exact Oh fu _ _ _ | exact Ge fu _ _ _ | exact Bc fu _ _ | exact Yf fu _ | exact Jk fu _ _ | exact Kk fu _ _ | exact E9 fu _ | exact P6 fu _ _ | exact V0 _ | refine Le.bind ?_ (fun _ => ?_) | refine Le.ite ?_ ?_)
    · rw [Hi, E3]
      repeat (first | exact Le.rfl | exact ih0 _ _ _ _ | exact ih1 _ _ _ _ _ | exact ih2 _ _ _ _ | exact ih3 _ _ _ | exact Zf fu _ _ | exact Ua fu _ _ _ | exact Oh fu _ _ _ | exact Ge fu _ _ _ | exact Bc fu _ _ | exact Yf fu _ | exact Jk fu _ _ | exact Kk fu _ _ | exact E9 fu _ | exact P6 fu _ _ | exact V0 _ | refine Le.bind ?_ (fun _ => ?_) | refine Le.ite ?_ ?_)
    · rw [Ii, B9]
      repeat (first | exact Le.rfl | exact ih0 _ _ _ _ | exact ih1 _ _ _ _ _ | exact ih2 _ _ _ _ | exact ih3 _ _ _ | exact Zf fu _ _ | exact Ua fu _ _ _ | exact Oh fu _ _ _ | exact Ge fu _ _ _ | exact Bc fu _ _ | exact Yf fu _ | exact Jk fu _ _ | exact Kk fu _ _ | exact E9 fu _ | exact P6 fu _ _ | exact V0 _ | refine Le.bind ?_ (fun _ => ?_) | refine Le.ite ?_ ?_)
theorem Dm (fu : Nat) (c : F0) (s : Option J0) (l : List D0) (top : Bool) : Le (R4 fu c s l top) (D2 c s l top) := (Sf fu).1 c s l top
theorem C1w (fu : Nat) (c : F0) (s : Option J0) (l : List D0) (top : Bool) (v14 : Int) : Le (Aa fu c s l top v14) (U3 c s l top v14) := (Sf fu).2.1 c s l top v14
theorem Z20 (fu : Nat) (c : F0) (s : Option J0) (x : D0) (last : Bool) : Le (Hi fu c s x last) (E3 c s x last) := (Sf fu).2.2.1 c s x last
theorem A21 (fu : Nat) (c : F0) (s : Option J0) (x : D0) : Le (Ii fu c s x) (B9 c s x) := (Sf fu).2.2.2 c s x
mutual
def F8 : Nat → F0 → Int → A0 → B0 → (List (Str × L0)) → (List (Str × L0) × Option J0) → Int → Option Int
  | 0, _, _, _, _, _, _, _ => none
  | fu + 1, c, i, result, x1, m21, x2, v34 =>
    if (decide (v34 < (([x1.Params, x1.Vars]).length : Int))) = true then
      idx [x1.Params, x1.Vars] v34 >>= fun x3 =>
      G8 fu c i result x1 m21 x2 v34 x3 0
    else
      some (F0.mk c.p i true c.names) >>= fun x4 =>
      some (some (J0.mk x2.2 m21)) >>= fun x5 =>
      R4 fu x4 x5 x1.Body false >>= fun x6 =>
      if (x6 != 0) = true then
        some x6
      else
        Ui fu x5 x1.Value result >>= fun x7 =>
        some x7
def G8 : Nat → F0 → Int → A0 → B0 → (List (Str × L0)) → (List (Str × L0) × Option J0) → Int → (List B0) → Int → Option Int
  | 0, _, _, _, _, _, _, _, _, _ => none
  | fu + 1, c, i, result, x1, m2, x2, v341, x3, v40 =>
    if (decide (v40 < ((x3).length : Int))) = true then
      idx x3 v40 >>= fun x8 =>
      Ib fu c x8.TypeV i >>= fun x9 =>
      if (x9.2 != 0) = true then
        some x9.2
      else
        G8 fu c i result x1 (mpt x8.Name (L0.mk x9.1 false) m2) x2 v341 x3 (IntKind.i64.wrap (v40 + 1))
    else
      F8 fu c i result x1 m2 x2 (IntKind.i64.wrap (v341 + 1))
end
theorem En (fu : Nat) : (∀ (c : F0) (i : Int) (result : A0) (x1 : B0) (m21 : List (Str × L0)) (x2 : List (Str × L0) × Option J0) (v34 : Int), Le (F8 fu c i result x1 m21 x2 v34) (Z1 c i result x1 m21 x2 v34)) ∧ (∀ (c : F0) (i : Int) (result : A0) (x1 : B0) (m2 : List (Str × L0)) (x2 : List (Str × L0) × Option J0) (v341 : Int) (x3 : List B0) (v40 : Int), Le (G8 fu c i result x1 m2 x2 v341 x3 v40) (A3 c i result x1 m2 x2 v341 x3 v40)) := by
  induction fu with
  | zero => exact ⟨fun _ _ _ _ _ _ _ => Le.none, fun _ _ _ _ _ _ _ _ _ => Le.none⟩
  | succ fu ih =>
    obtain ⟨ih0, ih1⟩ := ih
    refine ⟨fun c i result x1 m21 x2 v34 => ?_, fun c i result x1 m2 x2 v341 x3 v40 => ?_⟩
    · rw [F8, Z1]
      repeat (first | exact Le.rfl | exact ih0 _ _ _ _ _ _ _ | exact ih1 _ _ _ _ _ _ _ _ _ | exact Dm fu _ _ _ _ | exact Ua fu _ _ _ | exact Rf fu _ _ _ | exact V0 _ | refine Le.bind ?_ (fun _ => ?_) | refine Le.ite ?_ ?_)
    · rw [G8, A3]
      repeat (first | exact Le.rfl | exact ih0 _ _ _ _ _ _ _ | exact ih1 _ _ _ _ _ _ _ _ _ | exact Dm fu _ _ _ _ | exact Ua fu _ _ _ | exact Rf fu _ _ _ | exact V0 _ | refine Le.bind ?_ (fun _ => ?_) | refine Le.ite ?_ ?_)
theorem W10 (fu : Nat) (c : F0) (i : Int) (result : A0) (x1 : B0) (m21 : List (Str × L0)) (x2 : List (Str × L0) × Option J0) (v34 : Int) : Le (F8 fu c i result x1 m21 x2 v34) (Z1 c i result x1 m21 x2 v34) := (En fu).1 c i result x1 m21 x2 v34
theorem W1s (fu : Nat) (c : F0) (i : Int) (result : A0) (x1 : B0) (m2 : List (Str × L0)) (x2 : List (Str × L0) × Option J0) (v341 : Int) (x3 : List B0) (v40 : Int) : Le (G8 fu c i result x1 m2 x2 v341 x3 v40) (A3 c i result x1 m2 x2 v341 x3 v40) := (En fu).2 c i result x1 m2 x2 v341 x3 v40
def Ck (fu : Nat) (c : F0) (i : Int) (result : A0) : Option Int :=
  idx c.p.Decls i >>= fun x1 =>
  Td fu none >>= fun x2 =>
  F8 fu c i result x1 x2.1 x2 0
theorem C15 (fu : Nat) (c : F0) (i : Int) (result : A0) : Le (Ck fu c i result) (S6 c i result) := by
  unfold Ck S6
  repeat (first | exact Le.rfl | exact E9 fu _ | exact W10 fu _ _ _ _ _ _ _ | exact V0 _ | refine Le.bind ?_ (fun _ => ?_) | refine Le.ite ?_ ?_)
def Fo (fu : Nat) (c : F0) (i : Int) : Option Int :=
  idx c.p.Decls i >>= fun x1 =>
  Ib fu c x1.TypeV i >>= fun x2 =>
  if (x2.2 != 0) = true then
    some x2.2
  else
    if (x1.Kind == 5) = true then
      Jh fu x2.1 >>= fun x3 =>
      if (!x3) = true then
        some 9
      else
        Jb fu c i false >>= fun x4 =>
        Ui fu x4 x1.Value x2.1 >>= fun x5 =>
        some x5
    else
      if (x1.Kind == 6) = true then
        Ck fu c i x2.1 >>= fun x6 =>
        some x6
      else
        some 0
theorem E1c (fu : Nat) (c : F0) (i : Int) : Le (Fo fu c i) (C9 c i) := by
  unfold Fo C9
  repeat (first | exact Le.rfl | exact Rf fu _ _ _ | exact Yf fu _ | exact Jl fu _ _ _ | exact Ua fu _ _ _ | exact C15 fu _ _ _ | exact V0 _ | refine Le.bind ?_ (fun _ => ?_) | refine Le.ite ?_ ?_)
mutual
def Ju : Nat → A0 → Option Bool
  | 0, _ => none
  | fu + 1, t =>
    (if (!(t.Kind == 4)) = true then N6 fu t.Of else some default) >>= fun x1 =>
    some (bif (t.Kind == 4) then true else x1)
def N6 : Nat → (List A0) → Option Bool
  | 0, _ => none
  | fu + 1, s =>
    M7 fu s >>= fun x1 =>
    some (decide (x1 ≥ 0))
def M7 : Nat → (List A0) → Option Int
  | 0, _ => none
  | fu + 1, s =>
    P4 fu s 0
def P4 : Nat → (List A0) → Int → Option Int
  | 0, _, _ => none
  | fu + 1, s, v8 =>
    if (decide (v8 < ((s).length : Int))) = true then
      idx s v8 >>= fun x1 =>
      Ju fu x1 >>= fun x2 =>
      if x2 = true then
        some v8
      else
        P4 fu s (IntKind.i64.wrap (v8 + 1))
    else
      some (-1)
end
theorem Tv (fu : Nat) : (∀ (t : A0), Le (Ju fu t) (Dg t)) ∧ (∀ (s : List A0), Le (N6 fu s) (Z2 s)) ∧ (∀ (s : List A0), Le (M7 fu s) (L3 s)) ∧ (∀ (s : List A0) (v8 : Int), Le (P4 fu s v8) (W1 s v8)) := by
  induction fu with
  | zero => exact ⟨fun _ => Le.none, fun _ => Le.none, fun _ => Le.none, fun _ _ => Le.none⟩
  | succ fu ih =>
    obtain ⟨ih0, ih1, ih2, ih3⟩ := ih
    refine ⟨fun t => ?_, fun s => ?_, fun s => ?_, fun s v8 => ?_⟩
    · rw [Ju, Dg]
      repeat (first | exact Le.rfl | exact ih0 _ | exact ih1 _ | exact ih2 _ | exact ih3 _ _ | exact V0 _ | refine Le.bind ?_ (fun _ => ?_) | refine Le.ite ?_ ?_)
    · rw [N6, Z2]
      repeat (first | exact Le.rfl | exact ih0 _ | exact ih1 _ | exact ih2 _ | exact ih3 _ _ | exact V0 _ | refine Le.bind ?_ (fun _ => ?_) | refine Le.ite ?_ ?_)
    · rw [M7, L3]
      repeat (first | exact Le.rfl | exact ih0 _ | exact ih1 _ | exact ih2 _ | exact ih3 _ _ | exact V0 _ | refine Le.bind ?_ (fun _ => ?_) | refine Le.ite ?_ ?_)
    · rw [P4, W1]
      repeat (first | exact Le.rfl | exact ih0 _ | exact ih1 _ | exact ih2 _ | exact ih3 _ _ | exact V0 _ | refine Le.bind ?_ (fun _ => ?_) | refine Le.ite ?_ ?_)
theorem I1x (fu : Nat) (t : A0) : Le (Ju fu t) (Dg t) := (Tv fu).1 t
theorem L1h (fu : Nat) (s : List A0) : Le (N6 fu s) (Z2 s) := (Tv fu).2.1 s
theorem S1k (fu : Nat) (s : List A0) : Le (M7 fu s) (L3 s) := (Tv fu).2.2.1 s
theorem M1h (fu : Nat) (s : List A0) (v8 : Int) : Le (P4 fu s v8) (W1 s v8) := (Tv fu).2.2.2 s v8
def H1a (fu : Nat) (t : A0) : Option Int :=
  Ju fu t >>= fun x1 =>
  if x1 = true then
    some 7
  else
    Pp fu t >>= fun x2 =>
    if x2 = true then
      some 8
    else
      Cm fu t >>= fun x3 =>
      if (decide (x3 > 32)) = true then
        some 4
      else
        some 0
theorem J1x (fu : Nat) (t : A0) : Le (H1a fu t) (Nu t) := by
  unfold H1a Nu
  repeat (first | exact Le.rfl | exact I1x fu _ | exact C1j fu _ | exact D1j fu _ | exact V0 _ | refine Le.bind ?_ (fun _ => ?_) | refine Le.ite ?_ ?_)
def I1a (fu : Nat) (t : A0) : Option Int :=
  Hq fu t >>= fun x1 =>
  if (x1 != 0) = true then
    some x1
  else
    H1a fu t >>= fun x2 =>
    some x2
theorem K1x (fu : Nat) (t : A0) : Le (I1a fu t) (Qq t) := by
  unfold I1a Qq
  repeat (first | exact Le.rfl | exact F16 fu _ | exact J1x fu _ | exact V0 _ | refine Le.bind ?_ (fun _ => ?_) | refine Le.ite ?_ ?_)
def Uv (fu : Nat) (s : Str) : Option Str :=
  T1p s >>= fun x1 =>
  some x1
theorem X1s (fu : Nat) (s : Str) : Le (Uv fu s) (Dj s) := by
  unfold Uv Dj
  repeat (first | exact Le.rfl | exact V0 _ | refine Le.bind ?_ (fun _ => ?_) | refine Le.ite ?_ ?_)
def Rt (fu : Nat) (path : Str) (a1 : Int) (x : A0) (s : List R0) : Option (Bool × List R0) :=
  if (x.Kind == 0) = true then
    Uv fu path >>= fun x1 =>
    if (decide ((s.length + 1) * 41 ≤ 140737488355328)) = true then
      some (true, (s ++ [(R0.mk x1 true 0 1)]))
    else none
  else
    if (x.Kind == 1) = true then
      Uv fu path >>= fun x2 =>
      if (decide ((s.length + 1) * 41 ≤ 140737488355328)) = true then
        some (true, (s ++ [(R0.mk x2 false x.Low x.High)]))
      else none
    else
      some (true, s)
theorem Ps (fu : Nat) (path : Str) (a1 : Int) (x : A0) (s : List R0) : Le (Rt fu path a1 x s) (Uc path a1 x s) := by
  unfold Rt Uc
  repeat (first | exact Le.rfl | exact X1s fu _ | exact V0 _ | refine Le.bind ?_ (fun _ => ?_) | refine Le.ite ?_ ?_)
mutual
def Vi : Nat → Str → A0 → Int → (List R0) → Option (Bool × Int × List R0)
  | 0, _, _, _, _ => none
  | fu + 1, path, t, s, s1 =>
    Rt fu path s t s1 >>= fun x1 =>
    if (!x1.1) = true then
      some (false, s, x1.2)
    else
      if (t.Kind == 2) = true then
        Ji fu path t s x1.2 0
      else
        if (t.Kind == 3) = true then
          Ki fu path t s x1.2 0
        else
          some (true, (IntKind.i64.wrap (s + 1)), x1.2)
def Ji : Nat → Str → A0 → Int → (List R0) → Int → Option (Bool × Int × List R0)
  | 0, _, _, _, _, _ => none
  | fu + 1, path, t, o1, o3, v25 =>
    if (decide (v25 < t.Size)) = true then
      if (decide (path.length + 1 ≤ maxLen)) = true then
        F1s v25 >>= fun x2 =>
        if (decide ((path ++ [46]).length + x2.length ≤ maxLen)) = true then
          idx t.Of 0 >>= fun x3 =>
          Vi fu ((path ++ [46]) ++ x2) x3 o1 o3 >>= fun x6 =>
          if (!x6.1) = true then
            some (false, x6.2.1, x6.2.2)
          else
            Ji fu path t x6.2.1 x6.2.2 (IntKind.i64.wrap (v25 + 1))
        else none
      else none
    else
      some (true, o1, o3)
def Ki : Nat → Str → A0 → Int → (List R0) → Int → Option (Bool × Int × List R0)
  | 0, _, _, _, _, _ => none
  | fu + 1, path, t, o11, o31, v46 =>
    if (decide (v46 < ((t.Of).length : Int))) = true then
      idx t.Of v46 >>= fun x4 =>
      if (decide (path.length + 1 ≤ maxLen)) = true then
        idx t.Names v46 >>= fun x5 =>
        if (decide ((path ++ [46]).length + x5.length ≤ maxLen)) = true then
          Vi fu ((path ++ [46]) ++ x5) x4 o11 o31 >>= fun x7 =>
          if (!x7.1) = true then
            some (false, x7.2.1, x7.2.2)
          else
            Ki fu path t x7.2.1 x7.2.2 (IntKind.i64.wrap (v46 + 1))
        else none
      else none
    else
      some (true, o11, o31)
end
theorem Bv (fu : Nat) : (∀ (path : Str) (t : A0) (s : Int) (s1 : List R0), Le (Vi fu path t s s1) (M6 path t s s1)) ∧ (∀ (path : Str) (t : A0) (o1 : Int) (o3 : List R0) (v25 : Int), Le (Ji fu path t o1 o3 v25) (D6 path t o1 o3 v25)) ∧ (∀ (path : Str) (t : A0) (o11 : Int) (o31 : List R0) (v46 : Int), Le (Ki fu path t o11 o31 v46) (C6 path t o11 o31 v46)) := by
  induction fu with
  | zero => exact ⟨fun _ _ _ _ => Le.none, fun _ _ _ _ _ => Le.none, fun _ _ _ _ _ => Le.none⟩
  | succ fu ih =>
    obtain ⟨ih0, ih1, ih2⟩ := ih
    refine ⟨fun path t s s1 => ?_, fun path t o1 o3 v25 => ?_, fun path t o11 o31 v46 => ?_⟩
    · rw [Vi, M6]
      repeat (first | exact Le.rfl | exact ih0 _ _ _ _ | exact ih1 _ _ _ _ _ | exact ih2 _ _ _ _ _ | exact Ps fu _ _ _ _ | exact V0 _ | refine Le.bind ?_ (fun _ => ?_) | refine Le.ite ?_ ?_)
    · rw [Ji, D6]
      repeat (first | exact Le.rfl | exact ih0 _ _ _ _ | exact ih1 _ _ _ _ _ | exact ih2 _ _ _ _ _ | exact Ps fu _ _ _ _ | exact V0 _ | refine Le.bind ?_ (fun _ => ?_) | refine Le.ite ?_ ?_)
    · rw [Ki, C6]
      repeat (first | exact Le.rfl | exact ih0 _ _ _ _ | exact ih1 _ _ _ _ _ | exact ih2 _ _ _ _ _ | exact Ps fu _ _ _ _ | exact V0 _ | refine Le.bind ?_ (fun _ => ?_) | refine Le.ite ?_ ?_)
theorem R1o (fu : Nat) (path : Str) (t : A0) (s : Int) (s1 : List R0) : Le (Vi fu path t s s1) (M6 path t s s1) := (Bv fu).1 path t s s1
theorem I27 (fu : Nat) (path : Str) (t : A0) (o1 : Int) (o3 : List R0) (v25 : Int) : Le (Ji fu path t o1 o3 v25) (D6 path t o1 o3 v25) := (Bv fu).2.1 path t o1 o3 v25
theorem J27 (fu : Nat) (path : Str) (t : A0) (o11 : Int) (o31 : List R0) (v46 : Int) : Le (Ki fu path t o11 o31 v46) (C6 path t o11 o31 v46) := (Bv fu).2.2 path t o11 o31 v46
def C14 (fu : Nat) (t : A0) (s : List R0) : Option (List R0) :=
  Vi fu [] t 0 s >>= fun x1 =>
  some x1.2.2
theorem Y1s (fu : Nat) (t : A0) (s : List R0) : Le (C14 fu t s) (Lp t s) := by
  unfold C14 Lp
  repeat (first | exact Le.rfl | exact R1o fu _ _ _ _ | exact V0 _ | refine Le.bind ?_ (fun _ => ?_) | refine Le.ite ?_ ?_)
def D14 (fu : Nat) (t : A0) : Option (List R0 × Int) :=
  I1a fu t >>= fun x1 =>
  if (x1 != 0) = true then
    some ([], x1)
  else
    C14 fu t [] >>= fun x2 =>
    some (x2, 0)
theorem X10 (fu : Nat) (t : A0) : Le (D14 fu t) (Bm t) := by
  unfold D14 Bm
  repeat (first | exact Le.rfl | exact K1x fu _ | exact Y1s fu _ _ | exact V0 _ | refine Le.bind ?_ (fun _ => ?_) | refine Le.ite ?_ ?_)
def Nm (fu : Nat) (a : Int) (b : Int) : Option Int :=
  some (min (IntKind.i64.wrap (a * b)) 1073741824)
theorem Jq (fu : Nat) (a : Int) (b : Int) : Le (Nm fu a b) (Yh a b) := by
  unfold Nm Yh
  repeat (first | exact Le.rfl | exact V0 _ | refine Le.bind ?_ (fun _ => ?_) | refine Le.ite ?_ ?_)
def Ho (fu : Nat) (a : Int) (b : Int) : Option Int :=
  some (min (IntKind.i64.wrap (a + b)) 1073741824)
theorem O1b (fu : Nat) (a : Int) (b : Int) : Le (Ho fu a b) (Vj a b) := by
  unfold Ho Vj
  repeat (first | exact Le.rfl | exact V0 _ | refine Le.bind ?_ (fun _ => ?_) | refine Le.ite ?_ ?_)
def Mk (fu : Nat) (a : N0) (b : N0) : Option N0 :=
  Ho fu a.steps b.steps >>= fun x1 =>
  Ho fu a.outputs b.outputs >>= fun x2 =>
  some (N0.mk x1 x2)
theorem Fp (fu : Nat) (a : N0) (b : N0) : Le (Mk fu a b) (Za a b) := by
  unfold Mk Za
  repeat (first | exact Le.rfl | exact O1b fu _ _ | exact V0 _ | refine Le.bind ?_ (fun _ => ?_) | refine Le.ite ?_ ?_)
def Hp (fu : Nat) (a : N0) (b : N0) : Option N0 :=
  some (N0.mk (max a.steps b.steps) (max a.outputs b.outputs))
theorem Io (fu : Nat) (a : N0) (b : N0) : Le (Hp fu a b) (Eh a b) := by
  unfold Hp Eh
  repeat (first | exact Le.rfl | exact V0 _ | refine Le.bind ?_ (fun _ => ?_) | refine Le.ite ?_ ?_)
def Kq (fu : Nat) (n : Int) (body : N0) : Option N0 :=
  Ho fu 1 body.steps >>= fun x1 =>
  Nm fu n x1 >>= fun x2 =>
  Nm fu n body.outputs >>= fun x3 =>
  some (N0.mk x2 x3)
theorem Cv (fu : Nat) (n : Int) (body : N0) : Le (Kq fu n body) (Rg n body) := by
  unfold Kq Rg
  repeat (first | exact Le.rfl | exact O1b fu _ _ | exact Jq fu _ _ | exact V0 _ | refine Le.bind ?_ (fun _ => ?_) | refine Le.ite ?_ ?_)
mutual
def S4 : Nat → (List D0) → (List (Str × N0)) → Option N0
  | 0, _, _ => none
  | fu + 1, l, m =>
    Ba fu l m (N0.mk 0 0) 0
def Ba : Nat → (List D0) → (List (Str × N0)) → N0 → Int → Option N0
  | 0, _, _, _, _ => none
  | fu + 1, l, m, o3, v11 =>
    if (decide (v11 < ((l).length : Int))) = true then
      idx l v11 >>= fun x1 =>
      Mk fu o3 (N0.mk 1 0) >>= fun x2 =>
      Li fu x1 m >>= fun x3 =>
      Mk fu x2 x3 >>= fun x4 =>
      Ba fu l m x4 (IntKind.i64.wrap (v11 + 1))
    else
      some o3
def Li : Nat → D0 → (List (Str × N0)) → Option N0
  | 0, _, _ => none
  | fu + 1, x, m =>
    if (x.Verb == 3) = true then
      some (N0.mk 0 1)
    else
      if (x.Verb == 1) = true then
        some (mgt x.Name m) >>= fun x1 =>
        some (x1.getD N0.zero)
      else
        if (x.Verb == 5) = true then
          S4 fu x.Then m >>= fun x2 =>
          S4 fu x.Else m >>= fun x3 =>
          Hp fu x2 x3 >>= fun x4 =>
          some x4
        else
          if (x.Verb == 6) = true then
            S4 fu x.Then m >>= fun x5 =>
            Kq fu x.NV x5 >>= fun x6 =>
            some x6
          else
            if (x.Verb == 7) = true then
              S4 fu x.Then m >>= fun x7 =>
              Kq fu (IntKind.i64.wrap ((IntKind.i64.wrap (x.High - x.Low)) + 1)) x7 >>= fun x8 =>
              some x8
            else
              some (N0.mk 0 0)
end
theorem Ml (fu : Nat) : (∀ (l : List D0) (m : List (Str × N0)), Le (S4 fu l m) (I2 l m)) ∧ (∀ (l : List D0) (m : List (Str × N0)) (o3 : N0) (v11 : Int), Le (Ba fu l m o3 v11) (V3 l m o3 v11)) ∧ (∀ (x : D0) (m : List (Str × N0)), Le (Li fu x m) (I7 x m)) := by
  induction fu with
  | zero => exact ⟨fun _ _ => Le.none, fun _ _ _ _ => Le.none, fun _ _ => Le.none⟩
  | succ fu ih =>
    obtain ⟨ih0, ih1, ih2⟩ := ih
    refine ⟨fun l m => ?_, fun l m o3 v11 => ?_, fun x m => ?_⟩
    · rw [S4, I2]
      repeat (first | exact Le.rfl | exact ih0 _ _ | exact ih1 _ _ _ _ | exact ih2 _ _ | exact Fp fu _ _ | exact Io fu _ _ | exact Cv fu _ _ | exact V0 _ | refine Le.bind ?_ (fun _ => ?_) | refine Le.ite ?_ ?_)
    · rw [Ba, V3]
      repeat (first | exact Le.rfl | exact ih0 _ _ | exact ih1 _ _ _ _ | exact ih2 _ _ | exact Fp fu _ _ | exact Io fu _ _ | exact Cv fu _ _ | exact V0 _ | refine Le.bind ?_ (fun _ => ?_) | refine Le.ite ?_ ?_)
    · rw [Li, I7]
      repeat (first | exact Le.rfl | exact ih0 _ _ | exact ih1 _ _ _ _ | exact ih2 _ _ | exact Fp fu _ _ | exact Io fu _ _ | exact Cv fu _ _ | exact V0 _ | refine Le.bind ?_ (fun _ => ?_) | refine Le.ite ?_ ?_)
theorem J1a (fu : Nat) (l : List D0) (m : List (Str × N0)) : Le (S4 fu l m) (I2 l m) := (Ml fu).1 l m
theorem D1w (fu : Nat) (l : List D0) (m : List (Str × N0)) (o3 : N0) (v11 : Int) : Le (Ba fu l m o3 v11) (V3 l m o3 v11) := (Ml fu).2.1 l m o3 v11
theorem B21 (fu : Nat) (x : D0) (m : List (Str × N0)) : Le (Li fu x m) (I7 x m) := (Ml fu).2.2 x m
def Xb : Nat → K0 → (List (Str × N0)) → Int → Option N0
  | 0, _, _, _ => none
  | fu + 1, p, m2, v11 =>
    if (decide (v11 < ((p.Decls).length : Int))) = true then
      idx p.Decls v11 >>= fun x1 =>
      if (x1.Kind == 6) = true then
        S4 fu x1.Body m2 >>= fun x2 =>
        Xb fu p (mpt x1.Name x2 m2) (IntKind.i64.wrap (v11 + 1))
      else
        Xb fu p m2 (IntKind.i64.wrap (v11 + 1))
    else
      S4 fu p.Body m2 >>= fun x3 =>
      some x3
theorem O1e (fu : Nat) : (∀ (p : K0) (m2 : List (Str × N0)) (v11 : Int), Le (Xb fu p m2 v11) (M4 p m2 v11)) := by
  induction fu with
  | zero => exact fun _ _ _ => Le.none
  | succ fu ih =>
    have ih0 := ih
    refine fun p m2 v11 => ?_
    · rw [Xb, M4]
      repeat (first | exact Le.rfl | exact ih0 _ _ _ | exact J1a fu _ _ | exact V0 _ | refine Le.bind ?_ (fun _ => ?_) | refine Le.ite ?_ ?_)
theorem Z1e (fu : Nat) (p : K0) (m2 : List (Str × N0)) (v11 : Int) : Le (Xb fu p m2 v11) (M4 p m2 v11) := (O1e fu) p m2 v11
def To (fu : Nat) (p : K0) : Option N0 :=
  Xb fu p [] 0
theorem Ym (fu : Nat) (p : K0) : Le (To fu p) (Ue p) := by
  unfold To Ue
  repeat (first | exact Le.rfl | exact Z1e fu _ _ _ | exact V0 _ | refine Le.bind ?_ (fun _ => ?_) | refine Le.ite ?_ ?_)
mutual
def K5 : Nat → F0 → (List (Int × Int)) → Int → Int → Int → Option Int
  | 0, _, _, _, _, _ => none
  | fu + 1, c, m0, scalars, hatches1, v23 =>
    if (decide (v23 < ((c.p.Decls).length : Int))) = true then
      idx c.p.Decls v23 >>= fun x1 =>
      some (Dt x1.Kind m0) >>= fun x2 =>
      if (x1.Kind == 5) = true then
        G9 fu c m0 x1 scalars (IntKind.i64.wrap (hatches1 + 1)) v23 x2 v23
      else
        G9 fu c m0 x1 scalars hatches1 v23 x2 v23
    else
      To fu c.p >>= fun x5 =>
      if (decide (scalars > 64)) = true then
        if (decide (scalars > 64)) = true then
          some 4
        else
          some 0
      else
        if (decide (hatches1 > 8)) = true then
          if (decide (hatches1 > 8)) = true then
            some 4
          else
            some 0
        else
          some (Dt 1 m0) >>= fun x6 =>
          if (decide ((x6.getD ei64.zero) > 4096)) = true then
            if (decide ((x6.getD ei64.zero) > 4096)) = true then
              some 4
            else
              some 0
          else
            some (Dt 2 m0) >>= fun x7 =>
            if (decide ((x7.getD ei64.zero) > 4096)) = true then
              if (decide ((x7.getD ei64.zero) > 4096)) = true then
                some 4
              else
                some 0
            else
              some (Dt 3 m0) >>= fun x8 =>
              if (decide ((x8.getD ei64.zero) > 256)) = true then
                if (decide ((x8.getD ei64.zero) > 256)) = true then
                  some 4
                else
                  some 0
              else
                if (decide (x5.steps > 4096)) = true then
                  if (decide (x5.steps > 4096)) = true then
                    some 4
                  else
                    some 0
                else
                  if (decide (x5.outputs > 8)) = true then
                    some 4
                  else
                    some 0
def G9 : Nat → F0 → (List (Int × Int)) → B0 → Int → Int → Int → (Option Int) → Int → Option Int
  | 0, _, _, _, _, _, _, _, _ => none
  | fu + 1, c, m01, x1, scalars1, hatches, i, x2, v231 =>
    if (bif (!x2.isSome) then (x1.Kind != 4) else false) = true then
      K5 fu c m01 scalars1 hatches (IntKind.i64.wrap (v231 + 1))
    else
      R5 fu c x1.TypeV i >>= fun x3 =>
      D14 fu x3 >>= fun x4 =>
      Z6 fu c m01 x1 (IntKind.i64.wrap (scalars1 + ((x4.1).length : Int))) hatches (x2.getD ei64.zero) x2 v231 x4 0
def Z6 : Nat → F0 → (List (Int × Int)) → B0 → Int → Int → Int → (Option Int) → Int → (List R0 × Int) → Int → Option Int
  | 0, _, _, _, _, _, _, _, _, _, _ => none
  | fu + 1, c, m02, x1, scalars2, hatches, n, x2, v231, x4, v62 =>
    if (decide (v62 < ((x4.1).length : Int))) = true then
      idx x4.1 v62 >>= fun x9 =>
      if x2.isSome = true then
        Nm fu n (IntKind.i64.wrap ((IntKind.i64.wrap (x9.High - x9.Low)) + 1)) >>= fun x10 =>
        Z6 fu c m02 x1 scalars2 hatches x10 x2 v231 x4 (IntKind.i64.wrap (v62 + 1))
      else
        Z6 fu c m02 x1 scalars2 hatches n x2 v231 x4 (IntKind.i64.wrap (v62 + 1))
    else
      if x2.isSome = true then
        K5 fu c (W19 x1.Kind n m02) scalars2 hatches (IntKind.i64.wrap (v231 + 1))
      else
        K5 fu c m02 scalars2 hatches (IntKind.i64.wrap (v231 + 1))
end
theorem Rh (fu : Nat) : (∀ (c : F0) (m0 : List (Int × Int)) (scalars : Int) (hatches1 : Int) (v23 : Int), Le (K5 fu c m0 scalars hatches1 v23) (E2 c m0 scalars hatches1 v23)) ∧ (∀ (c : F0) (m01 : List (Int × Int)) (x1 : B0) (scalars1 : Int) (hatches : Int) (i : Int) (x2 : Option Int) (v231 : Int), Le (G9 fu c m01 x1 scalars1 hatches i x2 v231) (C4 c m01 x1 scalars1 hatches i x2 v231)) ∧ (∀ (c : F0) (m02 : List (Int × Int)) (x1 : B0) (scalars2 : Int) (hatches : Int) (n : Int) (x2 : Option Int) (v231 : Int) (x4 : List R0 × Int) (v62 : Int), Le (Z6 fu c m02 x1 scalars2 hatches n x2 v231 x4 v62) (Y2 c m02 x1 scalars2 hatches n x2 v231 x4 v62)) := by
  induction fu with
  | zero => exact ⟨fun _ _ _ _ _ => Le.none, fun _ _ _ _ _ _ _ _ => Le.none, fun _ _ _ _ _ _ _ _ _ _ => Le.none⟩
  | succ fu ih =>
    obtain ⟨ih0, ih1, ih2⟩ := ih
    refine ⟨fun c m0 scalars hatches1 v23 => ?_, fun c m01 x1 scalars1 hatches i x2 v231 => ?_, fun c m02 x1 scalars2 hatches n x2 v231 x4 v62 => ?_⟩
    · rw [K5, E2]
      repeat (first | exact Le.rfl | exact ih0 _ _ _ _ _ | exact ih1 _ _ _ _ _ _ _ _ | exact ih2 _ _ _ _ _ _ _ _ _ _ | exact Ym fu _ | exact X6 fu _ _ _ | exact X10 fu _ | exact Jq fu _ _ | exact V0 _ | refine Le.bind ?_ (fun _ => ?_) | refine Le.ite ?_ ?_)
    · rw [G9, C4]
      repeat (first | exact Le.rfl | exact ih0 _ _ _ _ _ | exact ih1 _ _ _ _ _ _ _ _ | exact ih2 _ _ _ _ _ _ _ _ _ _ | exact Ym fu _ | exact X6 fu _ _ _ | exact X10 fu _ | exact Jq fu _ _ | exact V0 _ | refine Le.bind ?_ (fun _ => ?_) | refine Le.ite ?_ ?_)
    · rw [Z6, Y2]
      repeat (first | exact Le.rfl | exact ih0 _ _ _ _ _ | exact ih1 _ _ _ _ _ _ _ _ | exact ih2 _ _ _ _ _ _ _ _ _ _ | exact Ym fu _ | exact X6 fu _ _ _ | exact X10 fu _ | exact Jq fu _ _ | exact V0 _ | refine Le.bind ?_ (fun _ => ?_) | refine Le.ite ?_ ?_)
theorem E14 (fu : Nat) (c : F0) (m0 : List (Int × Int)) (scalars : Int) (hatches1 : Int) (v23 : Int) : Le (K5 fu c m0 scalars hatches1 v23) (E2 c m0 scalars hatches1 v23) := (Rh fu).1 c m0 scalars hatches1 v23
theorem J1v (fu : Nat) (c : F0) (m01 : List (Int × Int)) (x1 : B0) (scalars1 : Int) (hatches : Int) (i : Int) (x2 : Option Int) (v231 : Int) : Le (G9 fu c m01 x1 scalars1 hatches i x2 v231) (C4 c m01 x1 scalars1 hatches i x2 v231) := (Rh fu).2.1 c m01 x1 scalars1 hatches i x2 v231
theorem K1v (fu : Nat) (c : F0) (m02 : List (Int × Int)) (x1 : B0) (scalars2 : Int) (hatches : Int) (n : Int) (x2 : Option Int) (v231 : Int) (x4 : List R0 × Int) (v62 : Int) : Le (Z6 fu c m02 x1 scalars2 hatches n x2 v231 x4 v62) (Y2 c m02 x1 scalars2 hatches n x2 v231 x4 v62) := (Rh fu).2.2 c m02 x1 scalars2 hatches n x2 v231 x4 v62
def Em (fu : Nat) (c : F0) : Option Int :=
  K5 fu c (W19 3 1 (W19 2 1 (W19 1 1 []))) 0 0 0
theorem P19 (fu : Nat) (c : F0) : Le (Em fu c) (R9 c) := by
  unfold Em R9
  repeat (first | exact Le.rfl | exact E14 fu _ _ _ _ _ | exact V0 _ | refine Le.bind ?_ (fun _ => ?_) | refine Le.ite ?_ ?_)
def Mi : Nat → K0 → F0 → Int → Option (Int × Int)
  | 0, _, _, _ => none
  | fu + 1, p, x3, v46 =>
    if (decide (v46 < ((p.Decls).length : Int))) = true then
      Fo fu x3 v46 >>= fun x5 =>
      if (x5 != 0) = true then
        some (v46, x5)
      else
        Mi fu p x3 (IntKind.i64.wrap (v46 + 1))
    else
      Jb fu x3 ((p.Decls).length : Int) true >>= fun x6 =>
      R4 fu x3 x6 p.Body true >>= fun x7 =>
      if (x7 != 0) = true then
        some ((-1), x7)
      else
        Em fu x3 >>= fun x8 =>
        some ((-1), x8)
theorem E1h (fu : Nat) : (∀ (p : K0) (x3 : F0) (v46 : Int), Le (Mi fu p x3 v46) (E6 p x3 v46)) := by
  induction fu with
  | zero => exact fun _ _ _ => Le.none
  | succ fu ih =>
    have ih0 := ih
    refine fun p x3 v46 => ?_
    · rw [Mi, E6]
      repeat (first | exact Le.rfl | exact ih0 _ _ _ | exact E1c fu _ _ | exact Jl fu _ _ _ | exact Dm fu _ _ _ _ | exact P19 fu _ | exact V0 _ | refine Le.bind ?_ (fun _ => ?_) | refine Le.ite ?_ ?_)
theorem F1j (fu : Nat) (p : K0) (x3 : F0) (v46 : Int) : Le (Mi fu p x3 v46) (E6 p x3 v46) := (E1h fu) p x3 v46
def Ni : Nat → K0 → (List (Str × Bool)) → Int → Option (Int × Int)
  | 0, _, _, _ => none
  | fu + 1, p, m1, v27 =>
    if (decide (v27 < ((p.Decls).length : Int))) = true then
      idx p.Decls v27 >>= fun x2 =>
      Ni fu p (mpt x2.Name true m1) (IntKind.i64.wrap (v27 + 1))
    else
      some (F0.mk p ((p.Decls).length : Int) false m1) >>= fun x3 =>
      Ij fu x3 >>= fun x4 =>
      if (decide (x4 ≥ 0)) = true then
        some (x4, 8)
      else
        Mi fu p x3 0
theorem F1h (fu : Nat) : (∀ (p : K0) (m1 : List (Str × Bool)) (v27 : Int), Le (Ni fu p m1 v27) (F6 p m1 v27)) := by
  induction fu with
  | zero => exact fun _ _ _ => Le.none
  | succ fu ih =>
    have ih0 := ih
    refine fun p m1 v27 => ?_
    · rw [Ni, F6]
      repeat (first | exact Le.rfl | exact ih0 _ _ _ | exact Y13 fu _ | exact F1j fu _ _ _ | exact V0 _ | refine Le.bind ?_ (fun _ => ?_) | refine Le.ite ?_ ?_)
theorem G1j (fu : Nat) (p : K0) (m1 : List (Str × Bool)) (v27 : Int) : Le (Ni fu p m1 v27) (F6 p m1 v27) := (F1h fu) p m1 v27
def Wi (fu : Nat) (p : K0) : Option (Int × Int) :=
  A17 fu p >>= fun x1 =>
  if (x1 != 0) = true then
    some ((-1), x1)
  else
    Ni fu p [] 0
theorem Jx (fu : Nat) (p : K0) : Le (Wi fu p) (R8 p) := by
  unfold Wi R8
  repeat (first | exact Le.rfl | exact H1v fu _ | exact G1j fu _ _ _ | exact V0 _ | refine Le.bind ?_ (fun _ => ?_) | refine Le.ite ?_ ?_)
def Kx (fu : Nat) (e : C0) : Option Int :=
  Eb fu e 1 (E0.mk 0 0 false false false) >>= fun x1 =>
  Ei fu x1 >>= fun x2 =>
  some x2
theorem N1m (fu : Nat) (e : C0) : Le (Kx fu e) (Tn e) := by
  unfold Kx Tn
  repeat (first | exact Le.rfl | exact X9 fu _ _ _ | exact Js fu _ | exact V0 _ | refine Le.bind ?_ (fun _ => ?_) | refine Le.ite ?_ ?_)
def Lx (fu : Nat) (p : K0) (e : C0) : Option (A0 × Int) :=
  Wi fu p >>= fun x1 =>
  if (x1.2 != 0) = true then
    some ((A0.mk 0 0 0 0 [] [] []), x1.2)
  else
    Kx fu e >>= fun x2 =>
    if (x2 != 0) = true then
      some ((A0.mk 0 0 0 0 [] [] []), x2)
    else
      some (F0.mk p 0 false []) >>= fun x3 =>
      Jb fu x3 ((p.Decls).length : Int) true >>= fun x4 =>
      Fb fu x4 e >>= fun x5 =>
      some (x5.1, x5.2)
theorem O1m (fu : Nat) (p : K0) (e : C0) : Le (Lx fu p e) (Un p e) := by
  unfold Lx Un
  repeat (first | exact Le.rfl | exact Jx fu _ | exact N1m fu _ | exact Jl fu _ _ _ | exact Bc fu _ _ | exact V0 _ | refine Le.bind ?_ (fun _ => ?_) | refine Le.ite ?_ ?_)
def Vy (fu : Nat) (p : K0) (e : C0) : Option (Int × Int × Int) :=
  Lx fu p e >>= fun x1 =>
  if (x1.2 != 0) = true then
    some (0, 0, x1.2)
  else
    if (x1.1.Kind != 1) = true then
      some (0, 0, 9)
    else
      some (x1.1.Low, x1.1.High, 0)
theorem S1o (fu : Nat) (p : K0) (e : C0) : Le (Vy fu p e) (Wp p e) := by
  unfold Vy Wp
  repeat (first | exact Le.rfl | exact O1m fu _ _ | exact V0 _ | refine Le.bind ?_ (fun _ => ?_) | refine Le.ite ?_ ?_)
def Wy (fu : Nat) (p : K0) : Option (Int × Int) :=
  Wi fu p >>= fun x1 =>
  if (x1.2 != 0) = true then
    some (0, x1.2)
  else
    To fu p >>= fun x2 =>
    some (x2.steps, 0)
theorem T1o (fu : Nat) (p : K0) : Le (Wy fu p) (Xp p) := by
  unfold Wy Xp
  repeat (first | exact Le.rfl | exact Jx fu _ | exact Ym fu _ | exact V0 _ | refine Le.bind ?_ (fun _ => ?_) | refine Le.ite ?_ ?_)
def O1l (fu : Nat) : Option Bool :=
  Is fu [120] >>= fun x1 =>
  Is fu [112, 105, 110] >>= fun x2 =>
  Qu fu 2 >>= fun x3 =>
  Dx fu 10 [x2, x3] >>= fun x4 =>
  Qu fu 1 >>= fun x5 =>
  Dx fu 8 [x4, x5] >>= fun x6 =>
  Is fu [120] >>= fun x7 =>
  Qu fu 3 >>= fun x8 =>
  Dx fu 13 [x7, x8] >>= fun x9 =>
  Wi fu (K0.mk [(B0.mk 1 [112, 105, 110] (A0.mk 1 0 9 0 [] [] []) 0 (C0.mk 0 0 [] []) [] [] []), (B0.mk 4 [120] (A0.mk 1 0 3 0 [] [] []) 0 (C0.mk 0 0 [] []) [] [] [])] [(D0.mk 0 x1 x6 [] [] 0 0 0 [] [] []), (D0.mk 3 (C0.mk 0 0 [] []) x9 [] [] 0 0 0 [] [] [])]) >>= fun x10 =>
  idx [(D0.mk 0 x1 x6 [] [] 0 0 0 [] [] []), (D0.mk 3 (C0.mk 0 0 [] []) x9 [] [] 0 0 0 [] [] [])] 0 >>= fun x11 =>
  Vy fu (K0.mk [(B0.mk 1 [112, 105, 110] (A0.mk 1 0 9 0 [] [] []) 0 (C0.mk 0 0 [] []) [] [] []), (B0.mk 4 [120] (A0.mk 1 0 3 0 [] [] []) 0 (C0.mk 0 0 [] []) [] [] [])] [(D0.mk 0 x1 x6 [] [] 0 0 0 [] [] []), (D0.mk 3 (C0.mk 0 0 [] []) x9 [] [] 0 0 0 [] [] [])]) x11.Value >>= fun x12 =>
  Wy fu (K0.mk [(B0.mk 1 [112, 105, 110] (A0.mk 1 0 9 0 [] [] []) 0 (C0.mk 0 0 [] []) [] [] []), (B0.mk 4 [120] (A0.mk 1 0 3 0 [] [] []) 0 (C0.mk 0 0 [] []) [] [] [])] [(D0.mk 0 x1 x6 [] [] 0 0 0 [] [] []), (D0.mk 3 (C0.mk 0 0 [] []) x9 [] [] 0 0 0 [] [] [])]) >>= fun x13 =>
  Is fu [112, 105, 110] >>= fun x14 =>
  Qu fu 1 >>= fun x15 =>
  Wi fu (K0.mk [(B0.mk 1 [112, 105, 110] (A0.mk 1 0 9 0 [] [] []) 0 (C0.mk 0 0 [] []) [] [] []), (B0.mk 4 [120] (A0.mk 1 0 3 0 [] [] []) 0 (C0.mk 0 0 [] []) [] [] [])] [(D0.mk 0 x14 x15 [] [] 0 0 0 [] [] [])]) >>= fun x16 =>
  some (bif (bif (bif (bif (bif (bif (bif (bif (x10.1 == (-1)) then (x10.2 == 0) else false) then (x12.1 == 1) else false) then (x12.2.1 == 19) else false) then (x12.2.2 == 0) else false) then (x13.1 == 2) else false) then (x13.2 == 0) else false) then (x16.1 == (-1)) else false) then (x16.2 == 15) else false)
theorem L1x (fu : Nat) : Le (O1l fu ) (Rq ) := by
  unfold O1l Rq
  repeat (first | exact Le.rfl | exact Y1z fu _ | exact V22 fu _ | exact Z1z fu _ _ | exact Jx fu _ | exact S1o fu _ _ | exact T1o fu _ | exact V0 _ | refine Le.bind ?_ (fun _ => ?_) | refine Le.ite ?_ ?_)
end Go.Proofs.YtdkabnfphmmmnaaGreatDoor

