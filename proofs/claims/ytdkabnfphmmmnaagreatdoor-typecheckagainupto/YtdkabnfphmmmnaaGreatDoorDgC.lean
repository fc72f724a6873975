/- A part of the proof of TypecheckAgain. -/
import Derived.Test.YtdkabnfphmmmnaaGreatDoorDgB
import Derived.Test.YtdkabnfphmmmnaaGreatDoorAmB
set_option maxRecDepth 100000
set_option maxHeartbeats 4000000
set_option synthInstance.maxSize 2000
set_option linter.unusedVariables false
namespace Go.Proofs.YtdkabnfphmmmnaaGreatDoor
open Go.Am
def Dm (fu : Nat) (s : Str) : Option C0 :=
  some (C0.mk 3 0 s [])
theorem N1e (fu : Nat) (s : Str) : Le (Dm fu s) (Hk s) := by
  unfold Dm Hk
  repeat (first | exact Le.rfl | exact R0 _ | refine Le.bind ?_ (fun _ => ?_) | refine Le.ite ?_ ?_)
def Tn (fu : Nat) (n : Int) : Option C0 :=
  some (C0.mk 0 n [] [])
theorem C1h (fu : Nat) (n : Int) : Le (Tn fu n) (Nm n) := by
  unfold Tn Nm
  repeat (first | exact Le.rfl | exact R0 _ | refine Le.bind ?_ (fun _ => ?_) | refine Le.ite ?_ ?_)
def Sp (fu : Nat) (o : Int) (kids : List C0) : Option C0 :=
  some (C0.mk o 0 [] kids)
theorem O1e (fu : Nat) (o : Int) (kids : List C0) : Le (Sp fu o kids) (Zm o kids) := by
  unfold Sp Zm
  repeat (first | exact Le.rfl | exact R0 _ | refine Le.bind ?_ (fun _ => ?_) | refine Le.ite ?_ ?_)
def Oq (fu : Nat) (k : Int) : Option (Bool × Bool) :=
  some ((bif (decide (k ≥ 0)) then (decide (k ≤ 6)) else false), (bif (k == 5) then true else (k == 6)))
theorem Wg (fu : Nat) (k : Int) : Le (Oq fu k) (Gh k) := by
  unfold Oq Gh
  repeat (first | exact Le.rfl | exact R0 _ | refine Le.bind ?_ (fun _ => ?_) | refine Le.ite ?_ ?_)
def A1 (fu : Nat) (ok : Bool) (syntaxReport : B0) : Option B0 :=
  some (B0.mk syntaxReport.nodes syntaxReport.depth (bif syntaxReport.badForm then true else (!ok)) syntaxReport.badName syntaxReport.badNumber)
theorem I1 (fu : Nat) (ok : Bool) (syntaxReport : B0) : Le (A1 fu ok syntaxReport) (U0 ok syntaxReport) := by
  unfold A1 U0
  repeat (first | exact Le.rfl | exact R0 _ | refine Le.bind ?_ (fun _ => ?_) | refine Le.ite ?_ ?_)
def Q7 : Nat → (List Str) → (List Str) → Int → Option Bool
  | 0, _, _, _ => none
  | fu + 1, s1, s2, v13 =>
    if (decide (v13 < ((s1).length : Int))) = true then
      idx s1 v13 >>= fun x1 =>
      idx s2 v13 >>= fun x2 =>
      if (!(x1 == x2)) = true then
        some false
      else
        Q7 fu s1 s2 (IntKind.i64.wrap (v13 + 1))
    else
      some true
theorem Er (fu : Nat) : (∀ (s1 : List Str) (s2 : List Str) (v13 : Int), Le (Q7 fu s1 s2 v13) (P1 s1 s2 v13)) := by
  induction fu with
  | zero => exact fun _ _ _ => Le.none
  | succ fu ih =>
    have ih0 := ih
    refine fun s1 s2 v13 => ?_
    · rw [Q7, P1]
      repeat (first | exact Le.rfl | exact ih0 _ _ _ | exact R0 _ | refine Le.bind ?_ (fun _ => ?_) | refine Le.ite ?_ ?_)
theorem Zr (fu : Nat) (s1 : List Str) (s2 : List Str) (v13 : Int) : Le (Q7 fu s1 s2 v13) (P1 s1 s2 v13) := (Er fu) s1 s2 v13
def Qb (fu : Nat) (s1 : List Str) (s2 : List Str) : Option Bool :=
  if (((s1).length : Int) != ((s2).length : Int)) = true then
    some false
  else
    Q7 fu s1 s2 0
theorem I6 (fu : Nat) (s1 : List Str) (s2 : List Str) : Le (Qb fu s1 s2) (G3 s1 s2) := by
  unfold Qb G3
  repeat (first | exact Le.rfl | exact Zr fu _ _ _ | exact R0 _ | refine Le.bind ?_ (fun _ => ?_) | refine Le.ite ?_ ?_)
mutual
def Xg : Nat → A0 → A0 → Option Bool
  | 0, _, _ => none
  | fu + 1, a, b =>
    (if (bif (bif (bif (bif (a.Kind == b.Kind) then (a.Low == b.Low) else false) then (a.High == b.High) else false) then (a.Size == b.Size) else false) then (a.Name == b.Name) else false) = true then Qb fu a.Names b.Names else some default) >>= fun x1 =>
    (if (bif (bif (bif (bif (bif (a.Kind == b.Kind) then (a.Low == b.Low) else false) then (a.High == b.High) else false) then (a.Size == b.Size) else false) then (a.Name == b.Name) else false) then x1 else false) = true then T3 fu a.Of b.Of else some default) >>= fun x2 =>
    some (bif (bif (bif (bif (bif (bif (a.Kind == b.Kind) then (a.Low == b.Low) else false) then (a.High == b.High) else false) then (a.Size == b.Size) else false) then (a.Name == b.Name) else false) then x1 else false) then x2 else false)
def T3 : Nat → (List A0) → (List A0) → Option Bool
  | 0, _, _ => none
  | fu + 1, s1, s2 =>
    if (((s1).length : Int) != ((s2).length : Int)) = true then
      some false
    else
      J2 fu s1 s2 0
def J2 : Nat → (List A0) → (List A0) → Int → Option Bool
  | 0, _, _, _ => none
  | fu + 1, s1, s2, v17 =>
    if (decide (v17 < ((s1).length : Int))) = true then
      idx s1 v17 >>= fun x1 =>
      idx s2 v17 >>= fun x2 =>
      Xg fu x1 x2 >>= fun x3 =>
      if (!x3) = true then
        some false
      else
        J2 fu s1 s2 (IntKind.i64.wrap (v17 + 1))
    else
      some true
end
theorem Cn (fu : Nat) : (∀ (a : A0) (b : A0), Le (Xg fu a b) (D7 a b)) ∧ (∀ (s1 : List A0) (s2 : List A0), Le (T3 fu s1 s2) (J1 s1 s2)) ∧ (∀ (s1 : List A0) (s2 : List A0) (v17 : Int), Le (J2 fu s1 s2 v17) (Y0 s1 s2 v17)) := by
  induction fu with
  | zero => exact ⟨fun _ _ => Le.none, fun _ _ => Le.none, fun _ _ _ => Le.none⟩
  | succ fu ih =>
    obtain ⟨ih0, ih1, ih2⟩ := ih
    refine ⟨fun a b => ?_, fun s1 s2 => ?_, fun s1 s2 v17 => ?_⟩
    · rw [Xg, D7]
      repeat (first | exact Le.rfl | exact ih0 _ _ | exact ih1 _ _ | exact ih2 _ _ _ | exact I6 fu _ _ | exact R0 _ | refine Le.bind ?_ (fun _ => ?_) | refine Le.ite ?_ ?_)
    · rw [T3, J1]
      repeat (first | exact Le.rfl | exact ih0 _ _ | exact ih1 _ _ | exact ih2 _ _ _ | exact I6 fu _ _ | exact R0 _ | refine Le.bind ?_ (fun _ => ?_) | refine Le.ite ?_ ?_)
    · rw [J2, Y0]
      repeat (first | exact Le.rfl | exact ih0 _ _ | exact ih1 _ _ | exact ih2 _ _ _ | exact I6 fu _ _ | exact R0 _ | refine Le.bind ?_ (fun _ => ?_) | refine Le.ite ?_ ?_)
theorem Vf (fu : Nat) (a : A0) (b : A0) : Le (Xg fu a b) (D7 a b) := (Cn fu).1 a b
theorem Nw (fu : Nat) (s1 : List A0) (s2 : List A0) : Le (T3 fu s1 s2) (J1 s1 s2) := (Cn fu).2.1 s1 s2
theorem Tu (fu : Nat) (s1 : List A0) (s2 : List A0) (v17 : Int) : Le (J2 fu s1 s2 v17) (Y0 s1 s2 v17) := (Cn fu).2.2 s1 s2 v17
def Ie (fu : Nat) (d : Int) (syntaxReport : B0) : Option B0 :=
  some (B0.mk syntaxReport.nodes (max syntaxReport.depth d) syntaxReport.badForm syntaxReport.badName syntaxReport.badNumber)
theorem E2 (fu : Nat) (d : Int) (syntaxReport : B0) : Le (Ie fu d syntaxReport) (A8 d syntaxReport) := by
  unfold Ie A8
  repeat (first | exact Le.rfl | exact R0 _ | refine Le.bind ?_ (fun _ => ?_) | refine Le.ite ?_ ?_)
def D5 (fu : Nat) (n : Int) (low : Int) (high : Int) : Option Bool :=
  some (bif (decide (n ≥ low)) then (decide (n ≤ high)) else false)
theorem X2 (fu : Nat) (n : Int) (low : Int) (high : Int) : Le (D5 fu n low high) (I4 n low high) := by
  unfold D5 I4
  repeat (first | exact Le.rfl | exact R0 _ | refine Le.bind ?_ (fun _ => ?_) | refine Le.ite ?_ ?_)
def J3 (fu : Nat) (ok : Bool) (syntaxReport : B0) : Option B0 :=
  some (B0.mk syntaxReport.nodes syntaxReport.depth syntaxReport.badForm syntaxReport.badName (bif syntaxReport.badNumber then true else (!ok)))
theorem O1 (fu : Nat) (ok : Bool) (syntaxReport : B0) : Le (J3 fu ok syntaxReport) (B2 ok syntaxReport) := by
  unfold J3 B2
  repeat (first | exact Le.rfl | exact R0 _ | refine Le.bind ?_ (fun _ => ?_) | refine Le.ite ?_ ?_)
def As (fu : Nat) (c : Int) : Option Bool :=
  some (bif (decide (c ≥ 97)) then (decide (c ≤ 122)) else false)
theorem Z17 (fu : Nat) (c : Int) : Le (As fu c) (Mi c) := by
  unfold As Mi
  repeat (first | exact Le.rfl | exact R0 _ | refine Le.bind ?_ (fun _ => ?_) | refine Le.ite ?_ ?_)
def Wt (fu : Nat) (c : Int) : Option Bool :=
  some (bif (decide (c ≥ 48)) then (decide (c ≤ 57)) else false)
theorem J19 (fu : Nat) (c : Int) : Le (Wt fu c) (Ak c) := by
  unfold Wt Ak
  repeat (first | exact Le.rfl | exact R0 _ | refine Le.bind ?_ (fun _ => ?_) | refine Le.ite ?_ ?_)
def Rh : Nat → Str → Int → Option Bool
  | 0, _, _ => none
  | fu + 1, s, v6 =>
    if (decide (v6 < ((s).length : Int))) = true then
      idx s v6 >>= fun x1 =>
      As fu (x1.toNat : Int) >>= fun x2 =>
      (if ((!x2) && (!(v6 == 0))) = true then idx s v6 else some default) >>= fun x3 =>
      (if ((!x2) && (!(v6 == 0))) = true then Wt fu (x3.toNat : Int) else some default) >>= fun x4 =>
      if (bif (!x2) then (bif (v6 == 0) then true else (!x4)) else false) = true then
        some false
      else
        Rh fu s (IntKind.i64.wrap (v6 + 1))
    else
      some (!(s == []))
theorem F15 (fu : Nat) : (∀ (s : Str) (v6 : Int), Le (Rh fu s v6) (B8 s v6)) := by
  induction fu with
  | zero => exact fun _ _ => Le.none
  | succ fu ih =>
    have ih0 := ih
    refine fun s v6 => ?_
    · rw [Rh, B8]
      repeat (first | exact Le.rfl | exact ih0 _ _ | exact Z17 fu _ | exact J19 fu _ | exact R0 _ | refine Le.bind ?_ (fun _ => ?_) | refine Le.ite ?_ ?_)
theorem O16 (fu : Nat) (s : Str) (v6 : Int) : Le (Rh fu s v6) (B8 s v6) := (F15 fu) s v6
def Xv (fu : Nat) (s : Str) : Option Bool :=
  Rh fu s 0
theorem H1b (fu : Nat) (s : Str) : Le (Xv fu s) (Wl s) := by
  unfold Xv Wl
  repeat (first | exact Le.rfl | exact O16 fu _ _ | exact R0 _ | refine Le.bind ?_ (fun _ => ?_) | refine Le.ite ?_ ?_)
def Bs (fu : Nat) (Ve : Str) : Option Bool :=
  (if (!(Ve == [])) = true then Ym Ve [32] else some default) >>= fun x1 =>
  if (!(bif (!(Ve == [])) then (!x1) else false) || (decide (1 + Ve.length ≤ maxLen))) = true then
    if (!(bif (!(Ve == [])) then (!x1) else false) || (decide (([32] ++ Ve).length + 1 ≤ maxLen))) = true then
      (if (bif (!(Ve == [])) then (!x1) else false) = true then Ym [32, 116, 121, 112, 101, 32, 115, 101, 99, 114, 101, 116, 32, 112, 117, 98, 108, 105, 99, 32, 114, 97, 110, 100, 111, 109, 32, 118, 97, 114, 32, 104, 97, 116, 99, 104, 32, 102, 117, 110, 99, 32, 114, 101, 116, 117, 114, 110, 32, 98, 101, 103, 105, 110, 32, 101, 110, 100, 32, 98, 111, 111, 108, 32, 105, 110, 116, 32, 97, 114, 114, 97, 121, 32, 111, 102, 32, 114, 101, 99, 111, 114, 100, 32, 116, 114, 117, 101, 32, 102, 97, 108, 115, 101, 32, 99, 97, 108, 108, 32, 114, 101, 108, 101, 97, 115, 101, 32, 111, 117, 116, 112, 117, 116, 32, 119, 97, 105, 116, 32, 105, 102, 32, 101, 108, 115, 101, 32, 119, 104, 105, 108, 101, 32, 108, 105, 109, 105, 116, 32, 102, 111, 114, 32, 116, 111, 32, 115, 101, 116, 116, 108, 101, 32, 109, 105, 110, 32, 109, 97, 120, 32] (([32] ++ Ve) ++ [32]) else some default) >>= fun x2 =>
      some (bif (bif (!(Ve == [])) then (!x1) else false) then x2 else false)
    else none
  else none
theorem A18 (fu : Nat) (Ve : Str) : Le (Bs fu Ve) (Eg Ve) := by
  unfold Bs Eg
  repeat (first | exact Le.rfl | exact R0 _ | refine Le.bind ?_ (fun _ => ?_) | refine Le.ite ?_ ?_)
def Yv (fu : Nat) (s : Str) : Option Bool :=
  (if (decide (((s).length : Int) ≤ 12)) = true then Xv fu s else some default) >>= fun x1 =>
  (if (bif (decide (((s).length : Int) ≤ 12)) then x1 else false) = true then Bs fu s else some default) >>= fun x2 =>
  some (bif (bif (decide (((s).length : Int) ≤ 12)) then x1 else false) then (!x2) else false)
theorem I1b (fu : Nat) (s : Str) : Le (Yv fu s) (Xl s) := by
  unfold Yv Xl
  repeat (first | exact Le.rfl | exact H1b fu _ | exact A18 fu _ | exact R0 _ | refine Le.bind ?_ (fun _ => ?_) | refine Le.ite ?_ ?_)
def Oo (fu : Nat) (s : Str) : Option Bool :=
  Yv fu s >>= fun x1 =>
  some x1
theorem Zz (fu : Nat) (s : Str) : Le (Oo fu s) (Lf s) := by
  unfold Oo Lf
  repeat (first | exact Le.rfl | exact I1b fu _ | exact R0 _ | refine Le.bind ?_ (fun _ => ?_) | refine Le.ite ?_ ?_)
def V9 (fu : Nat) (s : Str) (syntaxReport : B0) : Option B0 :=
  (if (!syntaxReport.badName) = true then Oo fu s else some default) >>= fun x1 =>
  some (B0.mk syntaxReport.nodes syntaxReport.depth syntaxReport.badForm (bif syntaxReport.badName then true else (!x1)) syntaxReport.badNumber)
theorem L1 (fu : Nat) (s : Str) (syntaxReport : B0) : Le (V9 fu s syntaxReport) (X4 s syntaxReport) := by
  unfold V9 X4
  repeat (first | exact Le.rfl | exact Zz fu _ | exact R0 _ | refine Le.bind ?_ (fun _ => ?_) | refine Le.ite ?_ ?_)
mutual
def Sc : Nat → A0 → Int → B0 → Option B0
  | 0, _, _, _ => none
  | fu + 1, t, depth, syntaxReport =>
    Ie fu depth (B0.mk (IntKind.i64.wrap (syntaxReport.nodes + 1)) syntaxReport.depth syntaxReport.badForm syntaxReport.badName syntaxReport.badNumber) >>= fun x1 =>
    A1 fu (bif (decide (t.Kind ≥ 0)) then (decide (t.Kind ≤ 4)) else false) x1 >>= fun x2 =>
    A1 fu (bif (t.Kind == 1) then true else (bif (t.Low == 0) then (t.High == 0) else false)) x2 >>= fun x3 =>
    A1 fu (bif (t.Kind == 2) then true else (t.Size == 0)) x3 >>= fun x4 =>
    A1 fu (bif (t.Kind == 4) then true else (t.Name == [])) x4 >>= fun x5 =>
    A1 fu (bif (t.Kind == 3) then true else (((t.Names).length : Int) == 0)) x5 >>= fun x6 =>
    if (t.Kind == 2) = true then
      A1 fu (((t.Of).length : Int) == 1) x6 >>= fun x7 =>
      D5 fu t.Size 1 32 >>= fun x8 =>
      J3 fu x8 x7 >>= fun x9 =>
      Ka fu t depth x9
    else
      if (t.Kind == 3) = true then
        A1 fu (bif (decide (((t.Of).length : Int) ≥ 1)) then (((t.Of).length : Int) == ((t.Names).length : Int)) else false) x6 >>= fun x14 =>
        J3 fu (decide (((t.Of).length : Int) ≤ 32)) x14 >>= fun x15 =>
        Ka fu t depth x15
      else
        A1 fu (((t.Of).length : Int) == 0) x6 >>= fun x16 =>
        Ka fu t depth x16
def Ka : Nat → A0 → Int → B0 → Option B0
  | 0, _, _, _ => none
  | fu + 1, t, depth, o0 =>
    if (t.Kind == 1) = true then
      D5 fu t.Low (-1048576) 1048576 >>= fun x10 =>
      (if x10 = true then D5 fu t.High t.Low 1048576 else some default) >>= fun x11 =>
      J3 fu (bif x10 then x11 else false) o0 >>= fun x12 =>
      Ad fu t depth x12
    else
      Ad fu t depth o0
def Ad : Nat → A0 → Int → B0 → Option B0
  | 0, _, _, _ => none
  | fu + 1, t, depth, o01 =>
    if (t.Kind == 4) = true then
      V9 fu t.Name o01 >>= fun x13 =>
      Bd fu t depth x13
    else
      Bd fu t depth o01
def Bd : Nat → A0 → Int → B0 → Option B0
  | 0, _, _, _ => none
  | fu + 1, t, depth, o02 =>
    Cd fu t depth o02 0
def Cd : Nat → A0 → Int → B0 → Int → Option B0
  | 0, _, _, _, _ => none
  | fu + 1, t, depth, o03, v147 =>
    if (decide (v147 < ((t.Names).length : Int))) = true then
      idx t.Names v147 >>= fun x17 =>
      V9 fu x17 o03 >>= fun x18 =>
      Cd fu t depth x18 (IntKind.i64.wrap (v147 + 1))
    else
      Dd fu t depth o03 0
def Dd : Nat → A0 → Int → B0 → Int → Option B0
  | 0, _, _, _, _ => none
  | fu + 1, t, depth, o04, v158 =>
    if (decide (v158 < ((t.Of).length : Int))) = true then
      idx t.Of v158 >>= fun x19 =>
      Sc fu x19 (IntKind.i64.wrap (depth + 1)) o04 >>= fun x20 =>
      Dd fu t depth x20 (IntKind.i64.wrap (v158 + 1))
    else
      some o04
end
theorem Ra (fu : Nat) : (∀ (t : A0) (depth : Int) (syntaxReport : B0), Le (Sc fu t depth syntaxReport) (T4 t depth syntaxReport)) ∧ (∀ (t : A0) (depth : Int) (o0 : B0), Le (Ka fu t depth o0) (H5 t depth o0)) ∧ (∀ (t : A0) (depth : Int) (o01 : B0), Le (Ad fu t depth o01) (I5 t depth o01)) ∧ (∀ (t : A0) (depth : Int) (o02 : B0), Le (Bd fu t depth o02) (O6 t depth o02)) ∧ (∀ (t : A0) (depth : Int) (o03 : B0) (v147 : Int), Le (Cd fu t depth o03 v147) (C4 t depth o03 v147)) ∧ (∀ (t : A0) (depth : Int) (o04 : B0) (v158 : Int), Le (Dd fu t depth o04 v158) (P4 t depth o04 v158)) := by
  induction fu with
  | zero => exact ⟨fun _ _ _ => Le.none, fun _ _ _ => Le.none, fun _ _ _ => Le.none, fun _ _ _ => Le.none, fun _ _ _ _ => Le.none, fun _ _ _ _ => Le.none⟩
  | succ fu ih =>
    obtain ⟨ih0, ih1, ih2, ih3, ih4, ih5⟩ := ih
    refine ⟨fun t depth syntaxReport => ?_, fun t depth o0 => ?_, fun t depth o01 => ?_, fun t depth o02 => ?_, fun t depth o03 v147 => ?_, fun t depth o04 v158 => ?_⟩
    · rw [Sc, T4]
      repeat (first | exact Le.rfl | exact ih0 _ _ _ | exact ih1 _ _ _ | exact ih2 _ _ _ | exact ih3 _ _ _ | exact ih4 _ _ _ _ | exact ih5 _ _ _ _ | exact E2 fu _ _ | exact I1 fu _ _ | exact X2 fu _ _ _ | exact O1 fu _ _ | exact L1 fu _ _ | exact R0 _ | refine Le.bind ?_ (fun _ => ?_) | refine Le.ite ?_ ?_)
    · rw [Ka, H5]
      repeat (first | exact Le.rfl | exact ih0 _ _ _ | exact ih1 _ _ _ | exact ih2 _ _ _ | exact ih3 _ _ _ | exact ih4 _ _ _ _ | exact ih5 _ _ _ _ | exact E2 fu _ _ | exact I1 fu _ _ | exact X2 fu _ _ _ | exact O1 fu _ _ | exact L1 fu _ _ | exact R0 _ | refine Le.bind ?_ (fun _ => ?_) | refine Le.ite ?_ ?_)
    · rw [Ad, I5]
      repeat (first | exact Le.rfl | exact ih0 _ _ _ | exact ih1 _ _ _ | exact ih2 _ _ _ | exact ih3 _ _ _ | exact ih4 _ _ _ _ | exact ih5 _ _ _ _ | exact E2 fu _ _ | exact I1 fu _ _ | exact X2 fu _ _ _ | exact O1 fu _ _ | exact L1 fu _ _ | exact R0 _ | refine Le.bind ?_ (fun _ => ?_) | refine Le.ite ?_ ?_)
    · rw [Bd, O6]
      repeat (first | exact Le.rfl | exact ih0 _ _ _ | exact ih1 _ _ _ | exact ih2 _ _ _ | exact ih3 _ _ _ | exact ih4 _ _ _ _ | exact ih5 _ _ _ _ | exact E2 fu _ _ | exact I1 fu _ _ | exact X2 fu _ _ _ | exact O1 fu _ _ | exact L1 fu _ _ | exact R0 _ | refine Le.bind ?_ (fun _ => ?_) | refine Le.ite ?_ ?_)
    · rw [Cd, C4]
      repeat (first | exact Le.rfl | exact ih0 _ _ _ | exact ih1 _ _ _ | exact ih2 _ _ _ | exact ih3 _ _ _ | exact ih4 _ _ _ _ | exact ih5 _ _ _ _ | exact E2 fu _ _ | exact I1 fu _ _ | exact X2 fu _ _ _ | exact O1 fu _ _ | exact L1 fu _ _ | exact R0 _ | refine Le.bind ?_ (fun _ => ?_) | refine Le.ite ?_ ?_)
    · rw [Dd, P4]
      repeat (first | exact Le.rfl | exact ih0 _ _ _ | exact ih1 _ _ _ | exact ih2 _ _ _ | exact ih3 _ _ _ | exact ih4 _ _ _ _ | exact ih5 _ _ _ _ | exact E2 fu _ _ | exact I1 fu _ _ | exact X2 fu _ _ _ | exact O1 fu _ _ | exact L1 fu _ _ | exact R0 _ | refine Le.bind ?_ (fun _ => ?_) | refine Le.ite ?_ ?_)
theorem Rb (fu : Nat) (t : A0) (depth : Int) (syntaxReport : B0) : Le (Sc fu t depth syntaxReport) (T4 t depth syntaxReport) := (Ra fu).1 t depth syntaxReport
theorem R1i (fu : Nat) (t : A0) (depth : Int) (o0 : B0) : Le (Ka fu t depth o0) (H5 t depth o0) := (Ra fu).2.1 t depth o0
theorem S1i (fu : Nat) (t : A0) (depth : Int) (o01 : B0) : Le (Ad fu t depth o01) (I5 t depth o01) := (Ra fu).2.2.1 t depth o01
theorem T1i (fu : Nat) (t : A0) (depth : Int) (o02 : B0) : Le (Bd fu t depth o02) (O6 t depth o02) := (Ra fu).2.2.2.1 t depth o02
theorem U1i (fu : Nat) (t : A0) (depth : Int) (o03 : B0) (v147 : Int) : Le (Cd fu t depth o03 v147) (C4 t depth o03 v147) := (Ra fu).2.2.2.2.1 t depth o03 v147
theorem V1i (fu : Nat) (t : A0) (depth : Int) (o04 : B0) (v158 : Int) : Le (Dd fu t depth o04 v158) (P4 t depth o04 v158) := (Ra fu).2.2.2.2.2 t depth o04 v158
mutual
def Yg : Nat → C0 → C0 → Option Bool
  | 0, _, _ => none
  | fu + 1, a, b =>
    (if (bif (bif (a.Op == b.Op) then (a.NV == b.NV) else false) then (a.Name == b.Name) else false) = true then U3 fu a.Kids b.Kids else some default) >>= fun x1 =>
    some (bif (bif (bif (a.Op == b.Op) then (a.NV == b.NV) else false) then (a.Name == b.Name) else false) then x1 else false)
def U3 : Nat → (List C0) → (List C0) → Option Bool
  | 0, _, _ => none
  | fu + 1, s1, s2 =>
    if (((s1).length : Int) != ((s2).length : Int)) = true then
      some false
    else
      K2 fu s1 s2 0
def K2 : Nat → (List C0) → (List C0) → Int → Option Bool
  | 0, _, _, _ => none
  | fu + 1, s1, s2, v17 =>
    if (decide (v17 < ((s1).length : Int))) = true then
      idx s1 v17 >>= fun x1 =>
      idx s2 v17 >>= fun x2 =>
      Yg fu x1 x2 >>= fun x3 =>
      if (!x3) = true then
        some false
      else
        K2 fu s1 s2 (IntKind.i64.wrap (v17 + 1))
    else
      some true
end
theorem Dn (fu : Nat) : (∀ (a : C0) (b : C0), Le (Yg fu a b) (C6 a b)) ∧ (∀ (s1 : List C0) (s2 : List C0), Le (U3 fu s1 s2) (K1 s1 s2)) ∧ (∀ (s1 : List C0) (s2 : List C0) (v17 : Int), Le (K2 fu s1 s2 v17) (Z0 s1 s2 v17)) := by
  induction fu with
  | zero => exact ⟨fun _ _ => Le.none, fun _ _ => Le.none, fun _ _ _ => Le.none⟩
  | succ fu ih =>
    obtain ⟨ih0, ih1, ih2⟩ := ih
    refine ⟨fun a b => ?_, fun s1 s2 => ?_, fun s1 s2 v17 => ?_⟩
    · rw [Yg, C6]
      repeat (first | exact Le.rfl | exact ih0 _ _ | exact ih1 _ _ | exact ih2 _ _ _ | exact R0 _ | refine Le.bind ?_ (fun _ => ?_) | refine Le.ite ?_ ?_)
    · rw [U3, K1]
      repeat (first | exact Le.rfl | exact ih0 _ _ | exact ih1 _ _ | exact ih2 _ _ _ | exact R0 _ | refine Le.bind ?_ (fun _ => ?_) | refine Le.ite ?_ ?_)
    · rw [K2, Z0]
      repeat (first | exact Le.rfl | exact ih0 _ _ | exact ih1 _ _ | exact ih2 _ _ _ | exact R0 _ | refine Le.bind ?_ (fun _ => ?_) | refine Le.ite ?_ ?_)
theorem G15 (fu : Nat) (a : C0) (b : C0) : Le (Yg fu a b) (C6 a b) := (Dn fu).1 a b
theorem Ow (fu : Nat) (s1 : List C0) (s2 : List C0) : Le (U3 fu s1 s2) (K1 s1 s2) := (Dn fu).2.1 s1 s2
theorem Uu (fu : Nat) (s1 : List C0) (s2 : List C0) (v17 : Int) : Le (K2 fu s1 s2 v17) (Z0 s1 s2 v17) := (Dn fu).2.2 s1 s2 v17
def Sh (fu : Nat) (op : Int) (v9 : Bool) : Option Int :=
  if v9 = true then
    some 1
  else
    if (op == 5) = true then
      some 2
    else
      if (op == 23) = true then
        some 3
      else
        if (bif (decide (op ≥ 8)) then (decide (op ≤ 22)) else false) = true then
          some 2
        else
          some (-1)
theorem P16 (fu : Nat) (op : Int) (v9 : Bool) : Le (Sh fu op v9) (Jc op v9) := by
  unfold Sh Jc
  repeat (first | exact Le.rfl | exact R0 _ | refine Le.bind ?_ (fun _ => ?_) | refine Le.ite ?_ ?_)
def Df (fu : Nat) (op : Int) (v4 : Bool) : Option Int :=
  if v4 = true then
    some 0
  else
    if (op == 4) = true then
      Sh fu op (op == 4)
    else
      if (op == 6) = true then
        Sh fu op (op == 6)
      else
        Sh fu op (op == 7)
theorem Q16 (fu : Nat) (op : Int) (v4 : Bool) : Le (Df fu op v4) (Oa op v4) := by
  unfold Df Oa
  repeat (first | exact Le.rfl | exact P16 fu _ _ | exact R0 _ | refine Le.bind ?_ (fun _ => ?_) | refine Le.ite ?_ ?_)
def Zv (fu : Nat) (op : Int) : Option Int :=
  if (op == 0) = true then
    Df fu op (op == 0)
  else
    if (op == 1) = true then
      Df fu op (op == 1)
    else
      if (op == 2) = true then
        Df fu op (op == 2)
      else
        Df fu op (op == 3)
theorem Rk (fu : Nat) (op : Int) : Le (Zv fu op) (Ui op) := by
  unfold Zv Ui
  repeat (first | exact Le.rfl | exact Q16 fu _ _ | exact R0 _ | refine Le.bind ?_ (fun _ => ?_) | refine Le.ite ?_ ?_)
def Th : Nat → C0 → Option Bool
  | 0, _ => none
  | fu + 1, o0 =>
    if (bif (o0.Op == 4) then true else (o0.Op == 5)) = true then
      if (((o0.Kids).length : Int) == 0) = true then
        some false
      else
        idx o0.Kids 0 >>= fun x1 =>
        Th fu x1
    else
      some (o0.Op == 3)
theorem H15 (fu : Nat) : (∀ (o0 : C0), Le (Th fu o0) (Pa o0)) := by
  induction fu with
  | zero => exact fun _ => Le.none
  | succ fu ih =>
    have ih0 := ih
    refine fun o0 => ?_
    · rw [Th, Pa]
      repeat (first | exact Le.rfl | exact ih0 _ | exact R0 _ | refine Le.bind ?_ (fun _ => ?_) | refine Le.ite ?_ ?_)
theorem R16 (fu : Nat) (o0 : C0) : Le (Th fu o0) (Pa o0) := (H15 fu) o0
def Eq (fu : Nat) (e : C0) : Option Bool :=
  Th fu e
theorem F9 (fu : Nat) (e : C0) : Le (Eq fu e) (Rg e) := by
  unfold Eq Rg
  repeat (first | exact Le.rfl | exact R16 fu _ | exact R0 _ | refine Le.bind ?_ (fun _ => ?_) | refine Le.ite ?_ ?_)
mutual
def W9 : Nat → C0 → Int → B0 → Option B0
  | 0, _, _, _ => none
  | fu + 1, e, depth, syntaxReport =>
    Ie fu depth (B0.mk (IntKind.i64.wrap (syntaxReport.nodes + 1)) syntaxReport.depth syntaxReport.badForm syntaxReport.badName syntaxReport.badNumber) >>= fun x1 =>
    Zv fu e.Op >>= fun x2 =>
    A1 fu (x2 == ((e.Kids).length : Int)) x1 >>= fun x3 =>
    A1 fu (bif (e.NV == 0) then true else (e.Op == 0)) x3 >>= fun x4 =>
    A1 fu (bif (e.Name == []) then true else (bif (e.Op == 3) then true else (e.Op == 4))) x4 >>= fun x5 =>
    if (bif (e.Op == 4) then true else (e.Op == 5)) = true then
      Eq fu e >>= fun x6 =>
      A1 fu x6 x5 >>= fun x7 =>
      Vb fu e depth x7
    else
      Vb fu e depth x5
def Vb : Nat → C0 → Int → B0 → Option B0
  | 0, _, _, _ => none
  | fu + 1, e, depth, o0 =>
    if (bif (e.Op == 3) then true else (e.Op == 4)) = true then
      V9 fu e.Name o0 >>= fun x8 =>
      Wb fu e depth x8
    else
      Wb fu e depth o0
def Wb : Nat → C0 → Int → B0 → Option B0
  | 0, _, _, _ => none
  | fu + 1, e, depth, o01 =>
    if (e.Op == 0) = true then
      D5 fu e.NV 0 1048576 >>= fun x9 =>
      J3 fu x9 o01 >>= fun x10 =>
      Xb fu e depth x10
    else
      Xb fu e depth o01
def Xb : Nat → C0 → Int → B0 → Option B0
  | 0, _, _, _ => none
  | fu + 1, e, depth, o02 =>
    Yb fu e depth o02 0
def Yb : Nat → C0 → Int → B0 → Int → Option B0
  | 0, _, _, _, _ => none
  | fu + 1, e, depth, o03, v82 =>
    if (decide (v82 < ((e.Kids).length : Int))) = true then
      idx e.Kids v82 >>= fun x11 =>
      W9 fu x11 (IntKind.i64.wrap (depth + 1)) o03 >>= fun x12 =>
      Yb fu e depth x12 (IntKind.i64.wrap (v82 + 1))
    else
      some o03
end
theorem Ed (fu : Nat) : (∀ (e : C0) (depth : Int) (syntaxReport : B0), Le (W9 fu e depth syntaxReport) (D3 e depth syntaxReport)) ∧ (∀ (e : C0) (depth : Int) (o0 : B0), Le (Vb fu e depth o0) (U5 e depth o0)) ∧ (∀ (e : C0) (depth : Int) (o01 : B0), Le (Wb fu e depth o01) (K7 e depth o01)) ∧ (∀ (e : C0) (depth : Int) (o02 : B0), Le (Xb fu e depth o02) (L7 e depth o02)) ∧ (∀ (e : C0) (depth : Int) (o03 : B0) (v82 : Int), Le (Yb fu e depth o03 v82) (Q3 e depth o03 v82)) := by
  induction fu with
  | zero => exact ⟨fun _ _ _ => Le.none, fun _ _ _ => Le.none, fun _ _ _ => Le.none, fun _ _ _ => Le.none, fun _ _ _ _ => Le.none⟩
  | succ fu ih =>
    obtain ⟨ih0, ih1, ih2, ih3, ih4⟩ := ih
    refine ⟨fun e depth syntaxReport => ?_, fun e depth o0 => ?_, fun e depth o01 => ?_, fun e depth o02 => ?_, fun e depth o03 v82 => ?_⟩
    · rw [W9, D3]
      repeat (first | exact Le.rfl | exact ih0 _ _ _ | exact ih1 _ _ _ | exact ih2 _ _ _ | exact ih3 _ _ _ | exact ih4 _ _ _ _ | exact E2 fu _ _ | exact Rk fu _ | exact I1 fu _ _ | exact F9 fu _ | exact L1 fu _ _ | exact X2 fu _ _ _ | exact O1 fu _ _ | exact R0 _ | refine Le.bind ?_ (fun _ => ?_) | refine Le.ite ?_ ?_)
    · rw [Vb, U5]
      repeat (first | exact Le.rfl | exact ih0 _ _ _ | exact ih1 _ _ _ | exact ih2 _ _ _ | exact ih3 _ _ _ | exact ih4 _ _ _ _ | exact E2 fu _ _ | exact Rk fu _ | exact I1 fu _ _ | exact F9 fu _ | exact L1 fu _ _ | exact X2 fu _ _ _ | exact O1 fu _ _ | exact R0 _ | refine Le.bind ?_ (fun _ => ?_) | refine Le.ite ?_ ?_)
    · rw [Wb, K7]
      repeat (first | exact Le.rfl | exact ih0 _ _ _ | exact ih1 _ _ _ | exact ih2 _ _ _ | exact ih3 _ _ _ | exact ih4 _ _ _ _ | exact E2 fu _ _ | exact Rk fu _ | exact I1 fu _ _ | exact F9 fu _ | exact L1 fu _ _ | exact X2 fu _ _ _ | exact O1 fu _ _ | exact R0 _ | refine Le.bind ?_ (fun _ => ?_) | refine Le.ite ?_ ?_)
    · rw [Xb, L7]
      repeat (first | exact Le.rfl | exact ih0 _ _ _ | exact ih1 _ _ _ | exact ih2 _ _ _ | exact ih3 _ _ _ | exact ih4 _ _ _ _ | exact E2 fu _ _ | exact Rk fu _ | exact I1 fu _ _ | exact F9 fu _ | exact L1 fu _ _ | exact X2 fu _ _ _ | exact O1 fu _ _ | exact R0 _ | refine Le.bind ?_ (fun _ => ?_) | refine Le.ite ?_ ?_)
    · rw [Yb, Q3]
      repeat (first | exact Le.rfl | exact ih0 _ _ _ | exact ih1 _ _ _ | exact ih2 _ _ _ | exact ih3 _ _ _ | exact ih4 _ _ _ _ | exact E2 fu _ _ | exact Rk fu _ | exact I1 fu _ _ | exact F9 fu _ | exact L1 fu _ _ | exact X2 fu _ _ _ | exact O1 fu _ _ | exact R0 _ | refine Le.bind ?_ (fun _ => ?_) | refine Le.ite ?_ ?_)
theorem Z8 (fu : Nat) (e : C0) (depth : Int) (syntaxReport : B0) : Le (W9 fu e depth syntaxReport) (D3 e depth syntaxReport) := (Ed fu).1 e depth syntaxReport
theorem D1h (fu : Nat) (e : C0) (depth : Int) (o0 : B0) : Le (Vb fu e depth o0) (U5 e depth o0) := (Ed fu).2.1 e depth o0
theorem E1h (fu : Nat) (e : C0) (depth : Int) (o01 : B0) : Le (Wb fu e depth o01) (K7 e depth o01) := (Ed fu).2.2.1 e depth o01
theorem F1h (fu : Nat) (e : C0) (depth : Int) (o02 : B0) : Le (Xb fu e depth o02) (L7 e depth o02) := (Ed fu).2.2.2.1 e depth o02
theorem G1h (fu : Nat) (e : C0) (depth : Int) (o03 : B0) (v82 : Int) : Le (Yb fu e depth o03 v82) (Q3 e depth o03 v82) := (Ed fu).2.2.2.2 e depth o03 v82
def Xa (fu : Nat) (e : C0) (used : Bool) (syntaxReport : B0) : Option B0 :=
  (if (!used) = true then Yg fu e (C0.mk 0 0 [] []) else some default) >>= fun x1 =>
  if (bif (!used) then x1 else false) = true then
    some syntaxReport
  else
    A1 fu used syntaxReport >>= fun x2 =>
    W9 fu e 1 x2 >>= fun x3 =>
    some x3
theorem P3 (fu : Nat) (e : C0) (used : Bool) (syntaxReport : B0) : Le (Xa fu e used syntaxReport) (Z3 e used syntaxReport) := by
  unfold Xa Z3
  repeat (first | exact Le.rfl | exact G15 fu _ _ | exact I1 fu _ _ | exact Z8 fu _ _ _ | exact R0 _ | refine Le.bind ?_ (fun _ => ?_) | refine Le.ite ?_ ?_)
def Tp (fu : Nat) (v : Int) : Option (S0 × Bool) :=
  if (v == 0) = true then
    some ((S0.mk true true false false false false false false false), true)
  else
    if (v == 1) = true then
      some ((S0.mk true false true true false false false false false), true)
    else
      if (v == 2) = true then
        some ((S0.mk true false true false false false false false false), true)
      else
        if (v == 3) = true then
          some ((S0.mk false true false false false false false false false), true)
        else
          if (v == 4) = true then
            some ((S0.mk false false false false true false false false false), true)
          else
            if (v == 5) = true then
              some ((S0.mk false true false false false false false true true), true)
            else
              if (v == 6) = true then
                some ((S0.mk false true false false true false false true false), true)
              else
                if (v == 7) = true then
                  some ((S0.mk false false true false false true false true false), true)
                else
                  if (v == 8) = true then
                    some ((S0.mk false false false false false false true false false), true)
                  else
                    some ((S0.mk false false false false false false false false false), false)
theorem Wf (fu : Nat) (v : Int) : Le (Tp fu v) (Jd v) := by
  unfold Tp Jd
  repeat (first | exact Le.rfl | exact R0 _ | refine Le.bind ?_ (fun _ => ?_) | refine Le.ite ?_ ?_)
def Z9 : Nat → F0 → B0 → Int → Int → Option B0
  | 0, _, _, _, _ => none
  | fu + 1, s, o0, last, v58 =>
    if (decide (v58 < ((s.Numbers).length : Int))) = true then
      idx s.Numbers v58 >>= fun x10 =>
      D5 fu x10 0 1048576 >>= fun x11 =>
      J3 fu (bif x11 then (decide (x10 > last)) else false) o0 >>= fun x12 =>
      Z9 fu s x12 x10 (IntKind.i64.wrap (v58 + 1))
    else
      some o0
theorem Aw (fu : Nat) : (∀ (s : F0) (o0 : B0) (last : Int) (v58 : Int), Le (Z9 fu s o0 last v58) (E3 s o0 last v58)) := by
  induction fu with
  | zero => exact fun _ _ _ _ => Le.none
  | succ fu ih =>
    have ih0 := ih
    refine fun s o0 last v58 => ?_
    · rw [Z9, E3]
      repeat (first | exact Le.rfl | exact ih0 _ _ _ _ | exact X2 fu _ _ _ | exact O1 fu _ _ | exact R0 _ | refine Le.bind ?_ (fun _ => ?_) | refine Le.ite ?_ ?_)
theorem Lx (fu : Nat) (s : F0) (o0 : B0) (last : Int) (v58 : Int) : Le (Z9 fu s o0 last v58) (E3 s o0 last v58) := (Aw fu) s o0 last v58
def Vj (fu : Nat) (s : F0) (syntaxReport : B0) : Option B0 :=
  if (s.Verb == 4) = true then
    D5 fu s.NV 0 1048576 >>= fun x1 =>
    J3 fu x1 syntaxReport >>= fun x2 =>
    some x2
  else
    if (s.Verb == 6) = true then
      D5 fu s.NV 0 4096 >>= fun x3 =>
      J3 fu x3 syntaxReport >>= fun x4 =>
      some x4
    else
      if (s.Verb == 7) = true then
        D5 fu s.Low (-1048576) 1048576 >>= fun x5 =>
        (if x5 = true then D5 fu s.High s.Low 1048576 else some default) >>= fun x6 =>
        J3 fu (bif (bif x5 then x6 else false) then (decide ((IntKind.i64.wrap (s.High - s.Low)) < 4096)) else false) syntaxReport >>= fun x7 =>
        some x7
      else
        if (s.Verb == 8) = true then
          D5 fu ((s.Numbers).length : Int) 1 32 >>= fun x8 =>
          J3 fu x8 syntaxReport >>= fun x9 =>
          Z9 fu s x9 (-1) 0
        else
          some syntaxReport
theorem Ya (fu : Nat) (s : F0) (syntaxReport : B0) : Le (Vj fu s syntaxReport) (M7 s syntaxReport) := by
  unfold Vj M7
  repeat (first | exact Le.rfl | exact X2 fu _ _ _ | exact O1 fu _ _ | exact Lx fu _ _ _ _ | exact R0 _ | refine Le.bind ?_ (fun _ => ?_) | refine Le.ite ?_ ?_)
mutual
def A9 : Nat → (List F0) → Int → B0 → Option B0
  | 0, _, _, _ => none
  | fu + 1, l, nesting, syntaxReport =>
    Za fu l nesting syntaxReport 0
def Za : Nat → (List F0) → Int → B0 → Int → Option B0
  | 0, _, _, _, _ => none
  | fu + 1, l, nesting, o03, v14 =>
    if (decide (v14 < ((l).length : Int))) = true then
      idx l v14 >>= fun x1 =>
      Ie fu nesting (B0.mk (IntKind.i64.wrap (o03.nodes + 1)) o03.depth o03.badForm o03.badName o03.badNumber) >>= fun x2 =>
      Tp fu x1.Verb >>= fun x3 =>
      A1 fu x3.2 x2 >>= fun x4 =>
      Xa fu x1.Place x3.1.place x4 >>= fun x5 =>
      if x3.1.place = true then
        Eq fu x1.Place >>= fun x6 =>
        A1 fu x6 x5 >>= fun x7 =>
        Ab fu l nesting x7 x1 x3 v14
      else
        Ab fu l nesting x5 x1 x3 v14
    else
      some o03
def Ab : Nat → (List F0) → Int → B0 → F0 → (S0 × Bool) → Int → Option B0
  | 0, _, _, _, _, _, _ => none
  | fu + 1, l, nesting, o0, x1, x3, v141 =>
    Xa fu x1.Value x3.1.value o0 >>= fun x8 =>
    A1 fu (bif x3.1.name then true else (x1.Name == [])) x8 >>= fun x9 =>
    if x3.1.name = true then
      V9 fu x1.Name x9 >>= fun x10 =>
      Bb fu l nesting x10 x1 x3 v141
    else
      Bb fu l nesting x9 x1 x3 v141
def Bb : Nat → (List F0) → Int → B0 → F0 → (S0 × Bool) → Int → Option B0
  | 0, _, _, _, _, _, _ => none
  | fu + 1, l, nesting, o01, x1, x3, v142 =>
    A1 fu (bif x3.1.args then true else (((x1.Args).length : Int) == 0)) o01 >>= fun x11 =>
    Cb fu l nesting x11 x1 x3 v142 0
def Cb : Nat → (List F0) → Int → B0 → F0 → (S0 × Bool) → Int → Int → Option B0
  | 0, _, _, _, _, _, _, _ => none
  | fu + 1, l, nesting, o02, x1, x3, v143, v84 =>
    if (decide (v84 < ((x1.Args).length : Int))) = true then
      idx x1.Args v84 >>= fun x12 =>
      W9 fu x12 1 o02 >>= fun x13 =>
      Cb fu l nesting x13 x1 x3 v143 (IntKind.i64.wrap (v84 + 1))
    else
      A1 fu (bif x3.1.n then true else (x1.NV == 0)) o02 >>= fun x14 =>
      A1 fu (bif x3.1.bounds then true else (bif (x1.Low == 0) then (x1.High == 0) else false)) x14 >>= fun x15 =>
      A1 fu (bif x3.1.numbers then true else (((x1.Numbers).length : Int) == 0)) x15 >>= fun x16 =>
      A1 fu (bif x3.1.thenV then true else (((x1.Then).length : Int) == 0)) x16 >>= fun x17 =>
      A1 fu (bif x3.1.other then true else (((x1.Else).length : Int) == 0)) x17 >>= fun x18 =>
      Vj fu x1 x18 >>= fun x19 =>
      A9 fu x1.Then (IntKind.i64.wrap (nesting + 1)) x19 >>= fun x20 =>
      A9 fu x1.Else (IntKind.i64.wrap (nesting + 1)) x20 >>= fun x21 =>
      Za fu l nesting x21 (IntKind.i64.wrap (v143 + 1))
end
theorem Zb (fu : Nat) : (∀ (l : List F0) (nesting : Int) (syntaxReport : B0), Le (A9 fu l nesting syntaxReport) (K3 l nesting syntaxReport)) ∧ (∀ (l : List F0) (nesting : Int) (o03 : B0) (v14 : Int), Le (Za fu l nesting o03 v14) (A4 l nesting o03 v14)) ∧ (∀ (l : List F0) (nesting : Int) (o0 : B0) (x1 : F0) (x3 : S0 × Bool) (v141 : Int), Le (Ab fu l nesting o0 x1 x3 v141) (K4 l nesting o0 x1 x3 v141)) ∧ (∀ (l : List F0) (nesting : Int) (o01 : B0) (x1 : F0) (x3 : S0 × Bool) (v142 : Int), Le (Bb fu l nesting o01 x1 x3 v142) (L4 l nesting o01 x1 x3 v142)) ∧ (∀ (l : List F0) (nesting : Int) (o02 : B0) (x1 : F0) (x3 : S0 × Bool) (v143 : Int) (v84 : Int), Le (Cb fu l nesting o02 x1 x3 v143 v84) (J5 l nesting o02 x1 x3 v143 v84)) := by
  induction fu with
  | zero => exact ⟨fun _ _ _ => Le.none, fun _ _ _ _ => Le.none, fun _ _ _ _ _ _ => Le.none, fun _ _ _ _ _ _ => Le.none, fun _ _ _ _ _ _ _ => Le.none⟩
  | succ fu ih =>
    obtain ⟨ih0, ih1, ih2, ih3, ih4⟩ := ih
    refine ⟨fun l nesting syntaxReport => ?_, fun l nesting o03 v14 => ?_, fun l nesting o0 x1 x3 v141 => ?_, fun l nesting o01 x1 x3 v142 => ?_, fun l nesting o02 x1 x3 v143 v84 => ?_⟩
    · rw [A9, K3]
      repeat (first | exact Le.rfl | exact ih0 _ _ _ | exact ih1 _ _ _ _ | exact ih2 _ _ _ _ _ _ | exact ih3 _ _ _ _ _ _ | exact ih4 _ _ _ _ _ _ _ | exact E2 fu _ _ | exact Wf fu _ | exact I1 fu _ _ | exact P3 fu _ _ _ | exact F9 fu _ | exact L1 fu _ _ | exact Z8 fu _ _ _ | exact Ya fu _ _ | exact R0 _ | refine Le.bind ?_ (fun _ => ?_) | refine Le.ite ?_ ?_)
    · rw [Za, A4]
      repeat (first | exact Le.rfl | exact ih0 _ _ _ | exact ih1 _ _ _ _ | exact ih2 _ _ _ _ _ _ | exact ih3 _ _ _ _ _ _ | exact ih4 _ _ _ _ _ _ _ | exact E2 fu _ _ | exact Wf fu _ | exact I1 fu _ _ | exact P3 fu _ _ _ | exact F9 fu _ | exact L1 fu _ _ | exact Z8 fu _ _ _ | exact Ya fu _ _ | exact R0 _ | refine Le.bind ?_ (fun _ => ?_) | refine Le.ite ?_ ?_)
    · rw [Ab, K4]
      repeat (first | exact Le.rfl | exact ih0 _ _ _ | exact ih1 _ _ _ _ | exact ih2 _ _ _ _ _ _ | exact ih3 _ _ _ _ _ _ | exact ih4 _ _ _ _ _ _ _ | exact E2 fu _ _ | exact Wf fu _ | exact I1 fu _ _ | exact P3 fu _ _ _ | exact F9 fu _ | exact L1 fu _ _ | exact Z8 fu _ _ _ | exact Ya fu _ _ | exact R0 _ | refine Le.bind ?_ (fun _ => ?_) | refine Le.ite ?_ ?_)
    · rw [Bb, L4]
      repeat (first | exact Le.rfl | exact ih0 _ _ _ | exact ih1 _ _ _ _ | exact ih2 _ _ _ _ _ _ | exact ih3 _ _ _ _ _ _ | exact ih4 _ _ _ _ _ _ _ | exact E2 fu _ _ | exact Wf fu _ | exact I1 fu _ _ | exact P3 fu _ _ _ | exact F9 fu _ | exact L1 fu _ _ | exact Z8 fu _ _ _ | exact Ya fu _ _ | exact R0 _ | refine Le.bind ?_ (fun _ => ?_) | refine Le.ite ?_ ?_)
    · rw [Cb, J5]
      repeat (first | exact Le.rfl | exact ih0 _ _ _ | exact ih1 _ _ _ _ | exact ih2 _ _ _ _ _ _ | exact ih3 _ _ _ _ _ _ | exact ih4 _ _ _ _ _ _ _ | exact E2 fu _ _ | exact Wf fu _ | exact I1 fu _ _ | exact P3 fu _ _ _ | exact F9 fu _ | exact L1 fu _ _ | exact Z8 fu _ _ _ | exact Ya fu _ _ | exact R0 _ | refine Le.bind ?_ (fun _ => ?_) | refine Le.ite ?_ ?_)
theorem La (fu : Nat) (l : List F0) (nesting : Int) (syntaxReport : B0) : Le (A9 fu l nesting syntaxReport) (K3 l nesting syntaxReport) := (Zb fu).1 l nesting syntaxReport
theorem E1f (fu : Nat) (l : List F0) (nesting : Int) (o03 : B0) (v14 : Int) : Le (Za fu l nesting o03 v14) (A4 l nesting o03 v14) := (Zb fu).2.1 l nesting o03 v14
theorem F1f (fu : Nat) (l : List F0) (nesting : Int) (o0 : B0) (x1 : F0) (x3 : S0 × Bool) (v141 : Int) : Le (Ab fu l nesting o0 x1 x3 v141) (K4 l nesting o0 x1 x3 v141) := (Zb fu).2.2.1 l nesting o0 x1 x3 v141
theorem G1f (fu : Nat) (l : List F0) (nesting : Int) (o01 : B0) (x1 : F0) (x3 : S0 × Bool) (v142 : Int) : Le (Bb fu l nesting o01 x1 x3 v142) (L4 l nesting o01 x1 x3 v142) := (Zb fu).2.2.2.1 l nesting o01 x1 x3 v142
theorem H1f (fu : Nat) (l : List F0) (nesting : Int) (o02 : B0) (x1 : F0) (x3 : S0 × Bool) (v143 : Int) (v84 : Int) : Le (Cb fu l nesting o02 x1 x3 v143 v84) (J5 l nesting o02 x1 x3 v143 v84) := (Zb fu).2.2.2.2 l nesting o02 x1 x3 v143 v84
mutual
def Sa : Nat → (List E0) → B0 → Option B0
  | 0, _, _ => none
  | fu + 1, l, syntaxReport =>
    Db fu l syntaxReport 0
def Db : Nat → (List E0) → B0 → Int → Option B0
  | 0, _, _, _ => none
  | fu + 1, l, o03, v15 =>
    if (decide (v15 < ((l).length : Int))) = true then
      idx l v15 >>= fun x1 =>
      Oq fu x1.Kind >>= fun x2 =>
      A1 fu x2.1 (B0.mk (IntKind.i64.wrap (o03.nodes + 1)) o03.depth o03.badForm o03.badName o03.badNumber) >>= fun x3 =>
      (if (!x2.1) = true then Xg fu x1.TypeV (A0.mk 0 0 0 0 [] [] []) else some default) >>= fun x4 =>
      if (bif x2.1 then true else (!x4)) = true then
        Sc fu x1.TypeV 1 x3 >>= fun x5 =>
        Eb fu l x5 x1 x2 v15
      else
        Eb fu l x3 x1 x2 v15
    else
      some o03
def Eb : Nat → (List E0) → B0 → E0 → (Bool × Bool) → Int → Option B0
  | 0, _, _, _, _, _ => none
  | fu + 1, l, o0, x1, x2, v151 =>
    V9 fu x1.Name o0 >>= fun x6 =>
    Xa fu x1.Value x2.2 x6 >>= fun x7 =>
    A1 fu (bif (x1.Kind == 4) then true else (x1.Init == 0)) x7 >>= fun x8 =>
    D5 fu x1.Init (-1048576) 1048576 >>= fun x9 =>
    (if (x9 && (!(x1.TypeV.Kind != 0))) = true then D5 fu x1.Init 0 1 else some default) >>= fun x10 =>
    J3 fu (bif x9 then (bif (x1.TypeV.Kind != 0) then true else x10) else false) x8 >>= fun x11 =>
    A1 fu (bif (x1.Kind == 6) then true else (bif (bif (((x1.Params).length : Int) == 0) then (((x1.Vars).length : Int) == 0) else false) then (((x1.Body).length : Int) == 0) else false)) x11 >>= fun x12 =>
    Fb fu l x12 x1 v151 0
def Fb : Nat → (List E0) → B0 → E0 → Int → Int → Option B0
  | 0, _, _, _, _, _ => none
  | fu + 1, l, o01, x1, v152, v109 =>
    if (decide (v109 < ((x1.Params).length : Int))) = true then
      idx x1.Params v109 >>= fun x13 =>
      A1 fu (bif (x13.Kind == 4) then (x13.Init == 0) else false) o01 >>= fun x14 =>
      Fb fu l x14 x1 v152 (IntKind.i64.wrap (v109 + 1))
    else
      Gb fu l o01 x1 v152 0
def Gb : Nat → (List E0) → B0 → E0 → Int → Int → Option B0
  | 0, _, _, _, _, _ => none
  | fu + 1, l, o02, x1, v153, v127 =>
    if (decide (v127 < ((x1.Vars).length : Int))) = true then
      idx x1.Vars v127 >>= fun x15 =>
      A1 fu (x15.Kind == 4) o02 >>= fun x16 =>
      Gb fu l x16 x1 v153 (IntKind.i64.wrap (v127 + 1))
    else
      Sa fu x1.Params o02 >>= fun x17 =>
      Sa fu x1.Vars x17 >>= fun x18 =>
      A9 fu x1.Body 1 x18 >>= fun x19 =>
      Db fu l x19 (IntKind.i64.wrap (v153 + 1))
end
theorem Ac (fu : Nat) : (∀ (l : List E0) (syntaxReport : B0), Le (Sa fu l syntaxReport) (C5 l syntaxReport)) ∧ (∀ (l : List E0) (o03 : B0) (v15 : Int), Le (Db fu l o03 v15) (M4 l o03 v15)) ∧ (∀ (l : List E0) (o0 : B0) (x1 : E0) (x2 : Bool × Bool) (v151 : Int), Le (Eb fu l o0 x1 x2 v151) (K5 l o0 x1 x2 v151)) ∧ (∀ (l : List E0) (o01 : B0) (x1 : E0) (v152 : Int) (v109 : Int), Le (Fb fu l o01 x1 v152 v109) (N4 l o01 x1 v152 v109)) ∧ (∀ (l : List E0) (o02 : B0) (x1 : E0) (v153 : Int) (v127 : Int), Le (Gb fu l o02 x1 v153 v127) (L5 l o02 x1 v153 v127)) := by
  induction fu with
  | zero => exact ⟨fun _ _ => Le.none, fun _ _ _ => Le.none, fun _ _ _ _ _ => Le.none, fun _ _ _ _ _ => Le.none, fun _ _ _ _ _ => Le.none⟩
  | succ fu ih =>
    obtain ⟨ih0, ih1, ih2, ih3, ih4⟩ := ih
    refine ⟨fun l syntaxReport => ?_, fun l o03 v15 => ?_, fun l o0 x1 x2 v151 => ?_, fun l o01 x1 v152 v109 => ?_, fun l o02 x1 v153 v127 => ?_⟩
    · rw [Sa, C5]
      repeat (first | exact Le.rfl | exact ih0 _ _ | exact ih1 _ _ _ | exact ih2 _ _ _ _ _ | exact ih3 _ _ _ _ _ | exact ih4 _ _ _ _ _ | exact Wg fu _ | exact I1 fu _ _ | exact Vf fu _ _ | exact Rb fu _ _ _ | exact L1 fu _ _ | exact P3 fu _ _ _ | exact X2 fu _ _ _ | exact O1 fu _ _ | exact La fu _ _ _ | exact R0 _ | refine Le.bind ?_ (fun _ => ?_) | refine Le.ite ?_ ?_)
    · rw [Db, M4]
      repeat (first | exact Le.rfl | exact ih0 _ _ | exact ih1 _ _ _ | exact ih2 _ _ _ _ _ | exact ih3 _ _ _ _ _ | exact ih4 _ _ _ _ _ | exact Wg fu _ | exact I1 fu _ _ | exact Vf fu _ _ | exact Rb fu _ _ _ | exact L1 fu _ _ | exact P3 fu _ _ _ | exact X2 fu _ _ _ | exact O1 fu _ _ | exact La fu _ _ _ | exact R0 _ | refine Le.bind ?_ (fun _ => ?_) | refine Le.ite ?_ ?_)
    · rw [Eb, K5]
      repeat (first | exact Le.rfl | exact ih0 _ _ | exact ih1 _ _ _ | exact ih2 _ _ _ _ _ | exact ih3 _ _ _ _ _ | exact ih4 _ _ _ _ _ | exact Wg fu _ | exact I1 fu _ _ | exact Vf fu _ _ | exact Rb fu _ _ _ | exact L1 fu _ _ | exact P3 fu _ _ _ | exact X2 fu _ _ _ | exact O1 fu _ _ | exact La fu _ _ _ | exact R0 _ | refine Le.bind ?_ (fun _ => ?_) | refine Le.ite ?_ ?_)
    · rw [Fb, N4]
      repeat (first | exact Le.rfl | exact ih0 _ _ | exact ih1 _ _ _ | exact ih2 _ _ _ _ _ | exact ih3 _ _ _ _ _ | exact ih4 _ _ _ _ _ | exact Wg fu _ | exact I1 fu _ _ | exact Vf fu _ _ | exact Rb fu _ _ _ | exact L1 fu _ _ | exact P3 fu _ _ _ | exact X2 fu _ _ _ | exact O1 fu _ _ | exact La fu _ _ _ | exact R0 _ | refine Le.bind ?_ (fun _ => ?_) | refine Le.ite ?_ ?_)
    · rw [Gb, L5]
      repeat (first | exact Le.rfl | exact ih0 _ _ | exact ih1 _ _ _ | exact ih2 _ _ _ _ _ | exact ih3 _ _ _ _ _ | exact ih4 _ _ _ _ _ | exact Wg fu _ | exact I1 fu _ _ | exact Vf fu _ _ | exact Rb fu _ _ _ | exact L1 fu _ _ | exact P3 fu _ _ _ | exact X2 fu _ _ _ | exact O1 fu _ _ | exact La fu _ _ _ | exact R0 _ | refine Le.bind ?_ (fun _ => ?_) | refine Le.ite ?_ ?_)
theorem Q11 (fu : Nat) (l : List E0) (syntaxReport : B0) : Le (Sa fu l syntaxReport) (C5 l syntaxReport) := (Ac fu).1 l syntaxReport
theorem I1f (fu : Nat) (l : List E0) (o03 : B0) (v15 : Int) : Le (Db fu l o03 v15) (M4 l o03 v15) := (Ac fu).2.1 l o03 v15
theorem J1f (fu : Nat) (l : List E0) (o0 : B0) (x1 : E0) (x2 : Bool × Bool) (v151 : Int) : Le (Eb fu l o0 x1 x2 v151) (K5 l o0 x1 x2 v151) := (Ac fu).2.2.1 l o0 x1 x2 v151
theorem K1f (fu : Nat) (l : List E0) (o01 : B0) (x1 : E0) (v152 : Int) (v109 : Int) : Le (Fb fu l o01 x1 v152 v109) (N4 l o01 x1 v152 v109) := (Ac fu).2.2.2.1 l o01 x1 v152 v109
theorem L1f (fu : Nat) (l : List E0) (o02 : B0) (x1 : E0) (v153 : Int) (v127 : Int) : Le (Gb fu l o02 x1 v153 v127) (L5 l o02 x1 v153 v127) := (Ac fu).2.2.2.2 l o02 x1 v153 v127
def Cs (fu : Nat) (p : N0) : Option B0 :=
  Sa fu p.Decls (B0.mk 0 0 false false false) >>= fun x1 =>
  A9 fu p.Body 1 x1 >>= fun x2 =>
  some x2
theorem B18 (fu : Nat) (p : N0) : Le (Cs fu p) (Fg p) := by
  unfold Cs Fg
  repeat (first | exact Le.rfl | exact Q11 fu _ _ | exact La fu _ _ _ | exact R0 _ | refine Le.bind ?_ (fun _ => ?_) | refine Le.ite ?_ ?_)
def Je (fu : Nat) (syntaxReport : B0) : Option Int :=
  if (bif (decide (syntaxReport.nodes > 1024)) then true else (decide (syntaxReport.depth > 12))) = true then
    some 4
  else
    if syntaxReport.badForm = true then
      some 1
    else
      if syntaxReport.badName = true then
        some 7
      else
        if syntaxReport.badNumber = true then
          some 3
        else
          some 0
theorem Em (fu : Nat) (syntaxReport : B0) : Le (Je fu syntaxReport) (S6 syntaxReport) := by
  unfold Je S6
  repeat (first | exact Le.rfl | exact R0 _ | refine Le.bind ?_ (fun _ => ?_) | refine Le.ite ?_ ?_)
def Bw (fu : Nat) (p : N0) : Option Int :=
  Cs fu p >>= fun x1 =>
  Je fu x1 >>= fun x2 =>
  some x2
theorem J1b (fu : Nat) (p : N0) : Le (Bw fu p) (Vi p) := by
  unfold Bw Vi
  repeat (first | exact Le.rfl | exact B18 fu _ | exact Em fu _ | exact R0 _ | refine Le.bind ?_ (fun _ => ?_) | refine Le.ite ?_ ?_)
mutual
def E7 : Nat → D0 → (List (Str × Bool)) → Int → Option Int
  | 0, _, _, _ => none
  | fu + 1, c, m0, v18 =>
    if (decide (v18 < ((c.p.Decls).length : Int))) = true then
      idx c.p.Decls v18 >>= fun x1 =>
      some (mgt x1.Name m0) >>= fun x2 =>
      if (x2.getD ebool.zero) = true then
        some v18
      else
        F7 fu c (mpt x1.Name true m0) [] v18 v18 x1 0
    else
      some (-1)
def F7 : Nat → D0 → (List (Str × Bool)) → (List (Str × Bool)) → Int → Int → E0 → Int → Option Int
  | 0, _, _, _, _, _, _, _ => none
  | fu + 1, c, m01, m21, i, v181, x1, v38 =>
    if (decide (v38 < (([x1.Params, x1.Vars]).length : Int))) = true then
      idx [x1.Params, x1.Vars] v38 >>= fun x3 =>
      G7 fu c m01 m21 i v181 x1 v38 x3 0
    else
      E7 fu c m01 (IntKind.i64.wrap (v181 + 1))
def G7 : Nat → D0 → (List (Str × Bool)) → (List (Str × Bool)) → Int → Int → E0 → Int → (List E0) → Int → Option Int
  | 0, _, _, _, _, _, _, _, _, _ => none
  | fu + 1, c, m02, m2, i1, v182, x1, v381, x3, v44 =>
    if (decide (v44 < ((x3).length : Int))) = true then
      idx x3 v44 >>= fun x4 =>
      some (mgt x4.Name c.names) >>= fun x5 =>
      some (mgt x4.Name m2) >>= fun x6 =>
      if (bif (x5.getD ebool.zero) then true else (x6.getD ebool.zero)) = true then
        some i1
      else
        G7 fu c m02 (mpt x4.Name true m2) i1 v182 x1 v381 x3 (IntKind.i64.wrap (v44 + 1))
    else
      F7 fu c m02 m2 i1 v182 x1 (IntKind.i64.wrap (v381 + 1))
end
theorem Hc (fu : Nat) : (∀ (c : D0) (m0 : List (Str × Bool)) (v18 : Int), Le (E7 fu c m0 v18) (C2 c m0 v18)) ∧ (∀ (c : D0) (m01 : List (Str × Bool)) (m21 : List (Str × Bool)) (i : Int) (v181 : Int) (x1 : E0) (v38 : Int), Le (F7 fu c m01 m21 i v181 x1 v38) (R1 c m01 m21 i v181 x1 v38)) ∧ (∀ (c : D0) (m02 : List (Str × Bool)) (m2 : List (Str × Bool)) (i1 : Int) (v182 : Int) (x1 : E0) (v381 : Int) (x3 : List E0) (v44 : Int), Le (G7 fu c m02 m2 i1 v182 x1 v381 x3 v44) (N2 c m02 m2 i1 v182 x1 v381 x3 v44)) := by
  induction fu with
  | zero => exact ⟨fun _ _ _ => Le.none, fun _ _ _ _ _ _ _ => Le.none, fun _ _ _ _ _ _ _ _ _ => Le.none⟩
  | succ fu ih =>
    obtain ⟨ih0, ih1, ih2⟩ := ih
    refine ⟨fun c m0 v18 => ?_, fun c m01 m21 i v181 x1 v38 => ?_, fun c m02 m2 i1 v182 x1 v381 x3 v44 => ?_⟩
    · rw [E7, C2]
      repeat (first | exact Le.rfl | exact ih0 _ _ _ | exact ih1 _ _ _ _ _ _ _ | exact ih2 _ _ _ _ _ _ _ _ _ | exact R0 _ | refine Le.bind ?_ (fun _ => ?_) | refine Le.ite ?_ ?_)
    · rw [F7, R1]
      repeat (first | exact Le.rfl | exact ih0 _ _ _ | exact ih1 _ _ _ _ _ _ _ | exact ih2 _ _ _ _ _ _ _ _ _ | exact R0 _ | refine Le.bind ?_ (fun _ => ?_) | refine Le.ite ?_ ?_)
    · rw [G7, N2]
      repeat (first | exact Le.rfl | exact ih0 _ _ _ | exact ih1 _ _ _ _ _ _ _ | exact ih2 _ _ _ _ _ _ _ _ _ | exact R0 _ | refine Le.bind ?_ (fun _ => ?_) | refine Le.ite ?_ ?_)
theorem Gr (fu : Nat) (c : D0) (m0 : List (Str × Bool)) (v18 : Int) : Le (E7 fu c m0 v18) (C2 c m0 v18) := (Hc fu).1 c m0 v18
theorem P18 (fu : Nat) (c : D0) (m01 : List (Str × Bool)) (m21 : List (Str × Bool)) (i : Int) (v181 : Int) (x1 : E0) (v38 : Int) : Le (F7 fu c m01 m21 i v181 x1 v38) (R1 c m01 m21 i v181 x1 v38) := (Hc fu).2.1 c m01 m21 i v181 x1 v38
theorem Q18 (fu : Nat) (c : D0) (m02 : List (Str × Bool)) (m2 : List (Str × Bool)) (i1 : Int) (v182 : Int) (x1 : E0) (v381 : Int) (x3 : List E0) (v44 : Int) : Le (G7 fu c m02 m2 i1 v182 x1 v381 x3 v44) (N2 c m02 m2 i1 v182 x1 v381 x3 v44) := (Hc fu).2.2 c m02 m2 i1 v182 x1 v381 x3 v44
def Sf (fu : Nat) (c : D0) : Option Int :=
  E7 fu c [] 0
theorem Xt (fu : Nat) (c : D0) : Le (Sf fu c) (N7 c) := by
  unfold Sf N7
  repeat (first | exact Le.rfl | exact Gr fu _ _ _ | exact R0 _ | refine Le.bind ?_ (fun _ => ?_) | refine Le.ite ?_ ?_)
def Sk (fu : Nat) (t : A0) : Option Int :=
  Sc fu t 1 (B0.mk 0 0 false false false) >>= fun x1 =>
  Je fu x1 >>= fun x2 =>
  some x2
theorem Mv (fu : Nat) (t : A0) : Le (Sk fu t) (Ta t) := by
  unfold Sk Ta
  repeat (first | exact Le.rfl | exact Rb fu _ _ _ | exact Em fu _ | exact R0 _ | refine Le.bind ?_ (fun _ => ?_) | refine Le.ite ?_ ?_)
mutual
def Aj : Nat → A0 → (List (Str × A0)) → Option (A0 × Bool)
  | 0, _, _ => none
  | fu + 1, t, m =>
    if (t.Kind == 4) = true then
      some (mgt t.Name m) >>= fun x1 =>
      if (!x1.isSome) = true then
        some ((A0.mk 0 0 0 0 [] [] []), false)
      else
        Xf fu m (x1.getD A0.zero)
    else
      Xf fu m t
def Xf : Nat → (List (Str × A0)) → A0 → Option (A0 × Bool)
  | 0, _, _ => none
  | fu + 1, m, o1 =>
    Y9 o1.Names >>= fun x2 =>
    Yf fu m o1 x2 [] 0
def Yf : Nat → (List (Str × A0)) → A0 → (List Str) → (List A0) → Int → Option (A0 × Bool)
  | 0, _, _, _, _, _ => none
  | fu + 1, m, o1, x2, o3_Of, v36 =>
    if (decide (v36 < ((o1.Of).length : Int))) = true then
      idx o1.Of v36 >>= fun x3 =>
      Aj fu x3 m >>= fun x4 =>
      if (!x4.2) = true then
        some ((A0.mk 0 0 0 0 [] [] []), false)
      else
        if (decide ((o3_Of.length + 1) * 97 ≤ 140737488355328)) = true then
          Yf fu m o1 x2 (o3_Of ++ [x4.1]) (IntKind.i64.wrap (v36 + 1))
        else none
    else
      some ((A0.mk o1.Kind o1.Low o1.High o1.Size o1.Name x2 o3_Of), true)
end
theorem Up (fu : Nat) : (∀ (t : A0) (m : List (Str × A0)), Le (Aj fu t m) (E5 t m)) ∧ (∀ (m : List (Str × A0)) (o1 : A0), Le (Xf fu m o1) (O7 m o1)) ∧ (∀ (m : List (Str × A0)) (o1 : A0) (x2 : List Str) (o3_Of : List A0) (v36 : Int), Le (Yf fu m o1 x2 o3_Of v36) (U4 m o1 x2 o3_Of v36)) := by
  induction fu with
  | zero => exact ⟨fun _ _ => Le.none, fun _ _ => Le.none, fun _ _ _ _ _ => Le.none⟩
  | succ fu ih =>
    obtain ⟨ih0, ih1, ih2⟩ := ih
    refine ⟨fun t m => ?_, fun m o1 => ?_, fun m o1 x2 o3_Of v36 => ?_⟩
    · rw [Aj, E5]
      repeat (first | exact Le.rfl | exact ih0 _ _ | exact ih1 _ _ | exact ih2 _ _ _ _ _ | exact R0 _ | refine Le.bind ?_ (fun _ => ?_) | refine Le.ite ?_ ?_)
    · rw [Xf, O7]
      repeat (first | exact Le.rfl | exact ih0 _ _ | exact ih1 _ _ | exact ih2 _ _ _ _ _ | exact R0 _ | refine Le.bind ?_ (fun _ => ?_) | refine Le.ite ?_ ?_)
    · rw [Yf, U4]
      repeat (first | exact Le.rfl | exact ih0 _ _ | exact ih1 _ _ | exact ih2 _ _ _ _ _ | exact R0 _ | refine Le.bind ?_ (fun _ => ?_) | refine Le.ite ?_ ?_)
theorem C18 (fu : Nat) (t : A0) (m : List (Str × A0)) : Le (Aj fu t m) (E5 t m) := (Up fu).1 t m
theorem C1m (fu : Nat) (m : List (Str × A0)) (o1 : A0) : Le (Xf fu m o1) (O7 m o1) := (Up fu).2.1 m o1
theorem D1m (fu : Nat) (m : List (Str × A0)) (o1 : A0) (x2 : List Str) (o3_Of : List A0) (v36 : Int) : Le (Yf fu m o1 x2 o3_Of v36) (U4 m o1 x2 o3_Of v36) := (Up fu).2.2 m o1 x2 o3_Of v36
def R7 : Nat → (List Str) → Str → Int → Option Int
  | 0, _, _, _ => none
  | fu + 1, s, v, v8 =>
    if (decide (v8 < ((s).length : Int))) = true then
      idx s v8 >>= fun x1 =>
      if (v == x1) = true then
        some v8
      else
        R7 fu s v (IntKind.i64.wrap (v8 + 1))
    else
      some (-1)
theorem Hr (fu : Nat) : (∀ (s : List Str) (v : Str) (v8 : Int), Le (R7 fu s v v8) (I2 s v v8)) := by
  induction fu with
  | zero => exact fun _ _ _ => Le.none
  | succ fu ih =>
    have ih0 := ih
    refine fun s v v8 => ?_
    · rw [R7, I2]
      repeat (first | exact Le.rfl | exact ih0 _ _ _ | exact R0 _ | refine Le.bind ?_ (fun _ => ?_) | refine Le.ite ?_ ?_)
theorem Ds (fu : Nat) (s : List Str) (v : Str) (v8 : Int) : Le (R7 fu s v v8) (I2 s v v8) := (Hr fu) s v v8
def Hg (fu : Nat) (s : List Str) (v : Str) : Option Int :=
  R7 fu s v 0
theorem Vu (fu : Nat) (s : List Str) (v : Str) : Le (Hg fu s v) (X7 s v) := by
  unfold Hg X7
  repeat (first | exact Le.rfl | exact Ds fu _ _ _ | exact R0 _ | refine Le.bind ?_ (fun _ => ?_) | refine Le.ite ?_ ?_)
def Ae (fu : Nat) (s : List Str) (v : Str) : Option Bool :=
  Hg fu s v >>= fun x1 =>
  some (decide (x1 ≥ 0))
theorem H7 (fu : Nat) (s : List Str) (v : Str) : Le (Ae fu s v) (Z4 s v) := by
  unfold Ae Z4
  repeat (first | exact Le.rfl | exact Vu fu _ _ | exact R0 _ | refine Le.bind ?_ (fun _ => ?_) | refine Le.ite ?_ ?_)
mutual
def Ck : Nat → A0 → Option Bool
  | 0, _ => none
  | fu + 1, t =>
    Bj fu t 0
def Bj : Nat → A0 → Int → Option Bool
  | 0, _, _ => none
  | fu + 1, t, v8 =>
    if (decide (v8 < ((t.Names).length : Int))) = true then
      idx t.Names v8 >>= fun x1 =>
      slc t.Names 0 v8 >>= fun x2 =>
      Ae fu x2 x1 >>= fun x3 =>
      if x3 = true then
        some true
      else
        Bj fu t (IntKind.i64.wrap (v8 + 1))
    else
      Z6 fu t.Of >>= fun x4 =>
      some x4
def Z6 : Nat → (List A0) → Option Bool
  | 0, _ => none
  | fu + 1, s =>
    F8 fu s >>= fun x1 =>
    some (decide (x1 ≥ 0))
def F8 : Nat → (List A0) → Option Int
  | 0, _ => none
  | fu + 1, s =>
    Y4 fu s 0
def Y4 : Nat → (List A0) → Int → Option Int
  | 0, _, _ => none
  | fu + 1, s, v8 =>
    if (decide (v8 < ((s).length : Int))) = true then
      idx s v8 >>= fun x1 =>
      Ck fu x1 >>= fun x2 =>
      if x2 = true then
        some v8
      else
        Y4 fu s (IntKind.i64.wrap (v8 + 1))
    else
      some (-1)
end
theorem Tk (fu : Nat) : (∀ (t : A0), Le (Ck fu t) (Nb t)) ∧ (∀ (t : A0) (v8 : Int), Le (Bj fu t v8) (Fa t v8)) ∧ (∀ (s : List A0), Le (Z6 fu s) (Y1 s)) ∧ (∀ (s : List A0), Le (F8 fu s) (R3 s)) ∧ (∀ (s : List A0) (v8 : Int), Le (Y4 fu s v8) (T1 s v8)) := by
  induction fu with
  | zero => exact ⟨fun _ => Le.none, fun _ _ => Le.none, fun _ => Le.none, fun _ => Le.none, fun _ _ => Le.none⟩
  | succ fu ih =>
    obtain ⟨ih0, ih1, ih2, ih3, ih4⟩ := ih
    refine ⟨fun t => ?_, fun t v8 => ?_, fun s => ?_, fun s => ?_, fun s v8 => ?_⟩
    · rw [Ck, Nb]
      repeat (first | exact Le.rfl | exact ih0 _ | exact ih1 _ _ | exact ih2 _ | exact ih3 _ | exact ih4 _ _ | exact H7 fu _ _ | exact R0 _ | refine Le.bind ?_ (fun _ => ?_) | refine Le.ite ?_ ?_)
    · rw [Bj, Fa]
      repeat (first | exact Le.rfl | exact ih0 _ | exact ih1 _ _ | exact ih2 _ | exact ih3 _ | exact ih4 _ _ | exact H7 fu _ _ | exact R0 _ | refine Le.bind ?_ (fun _ => ?_) | refine Le.ite ?_ ?_)
    · rw [Z6, Y1]
      repeat (first | exact Le.rfl | exact ih0 _ | exact ih1 _ _ | exact ih2 _ | exact ih3 _ | exact ih4 _ _ | exact H7 fu _ _ | exact R0 _ | refine Le.bind ?_ (fun _ => ?_) | refine Le.ite ?_ ?_)
    · rw [F8, R3]
      repeat (first | exact Le.rfl | exact ih0 _ | exact ih1 _ _ | exact ih2 _ | exact ih3 _ | exact ih4 _ _ | exact H7 fu _ _ | exact R0 _ | refine Le.bind ?_ (fun _ => ?_) | refine Le.ite ?_ ?_)
    · rw [Y4, T1]
      repeat (first | exact Le.rfl | exact ih0 _ | exact ih1 _ _ | exact ih2 _ | exact ih3 _ | exact ih4 _ _ | exact H7 fu _ _ | exact R0 _ | refine Le.bind ?_ (fun _ => ?_) | refine Le.ite ?_ ?_)
theorem D13 (fu : Nat) (t : A0) : Le (Ck fu t) (Nb t) := (Tk fu).1 t
theorem J1p (fu : Nat) (t : A0) (v8 : Int) : Le (Bj fu t v8) (Fa t v8) := (Tk fu).2.1 t v8
theorem G14 (fu : Nat) (s : List A0) : Le (Z6 fu s) (Y1 s) := (Tk fu).2.2.1 s
theorem N15 (fu : Nat) (s : List A0) : Le (F8 fu s) (R3 s) := (Tk fu).2.2.2.1 s
theorem H14 (fu : Nat) (s : List A0) (v8 : Int) : Le (Y4 fu s v8) (T1 s v8) := (Tk fu).2.2.2.2 s v8
mutual
def On : Nat → A0 → Option Int
  | 0, _ => none
  | fu + 1, t =>
    Cj fu t 0 0
def Cj : Nat → A0 → Int → Int → Option Int
  | 0, _, _, _ => none
  | fu + 1, t, d, v9 =>
    if (decide (v9 < ((t.Of).length : Int))) = true then
      idx t.Of v9 >>= fun x1 =>
      On fu x1 >>= fun x2 =>
      Cj fu t (max d x2) (IntKind.i64.wrap (v9 + 1))
    else
      some (IntKind.i64.wrap (d + 1))
end
theorem Z10 (fu : Nat) : (∀ (t : A0), Le (On fu t) (Xc t)) ∧ (∀ (t : A0) (d : Int) (v9 : Int), Le (Cj fu t d v9) (Ga t d v9)) := by
  induction fu with
  | zero => exact ⟨fun _ => Le.none, fun _ _ _ => Le.none⟩
  | succ fu ih =>
    obtain ⟨ih0, ih1⟩ := ih
    refine ⟨fun t => ?_, fun t d v9 => ?_⟩
    · rw [On, Xc]
      repeat (first | exact Le.rfl | exact ih0 _ | exact ih1 _ _ _ | exact R0 _ | refine Le.bind ?_ (fun _ => ?_) | refine Le.ite ?_ ?_)
    · rw [Cj, Ga]
      repeat (first | exact Le.rfl | exact ih0 _ | exact ih1 _ _ _ | exact R0 _ | refine Le.bind ?_ (fun _ => ?_) | refine Le.ite ?_ ?_)
theorem X1c (fu : Nat) (t : A0) : Le (On fu t) (Xc t) := (Z10 fu).1 t
theorem K1p (fu : Nat) (t : A0) (d : Int) (v9 : Int) : Le (Cj fu t d v9) (Ga t d v9) := (Z10 fu).2 t d v9
mutual
def Mh : Nat → A0 → Option Int
  | 0, _ => none
  | fu + 1, t =>
    if (t.Kind == 2) = true then
      idx t.Of 0 >>= fun x1 =>
      Mh fu x1 >>= fun x3 =>
      some (min (IntKind.i64.wrap ((min t.Size 33) * x3)) 33)
    else
      if (t.Kind == 3) = true then
        Dj fu t 0 0
      else
        some (min 1 33)
def Dj : Nat → A0 → Int → Int → Option Int
  | 0, _, _, _ => none
  | fu + 1, t, n, v24 =>
    if (decide (v24 < ((t.Of).length : Int))) = true then
      idx t.Of v24 >>= fun x2 =>
      Mh fu x2 >>= fun x4 =>
      Dj fu t (IntKind.i64.wrap (n + x4)) (IntKind.i64.wrap (v24 + 1))
    else
      some (min n 33)
end
theorem A11 (fu : Nat) : (∀ (t : A0), Le (Mh fu t) (Ha t)) ∧ (∀ (t : A0) (n : Int) (v24 : Int), Le (Dj fu t n v24) (Ia t n v24)) := by
  induction fu with
  | zero => exact ⟨fun _ => Le.none, fun _ _ _ => Le.none⟩
  | succ fu ih =>
    obtain ⟨ih0, ih1⟩ := ih
    refine ⟨fun t => ?_, fun t n v24 => ?_⟩
    · rw [Mh, Ha]
      repeat (first | exact Le.rfl | exact ih0 _ | exact ih1 _ _ _ | exact R0 _ | refine Le.bind ?_ (fun _ => ?_) | refine Le.ite ?_ ?_)
    · rw [Dj, Ia]
      repeat (first | exact Le.rfl | exact ih0 _ | exact ih1 _ _ _ | exact R0 _ | refine Le.bind ?_ (fun _ => ?_) | refine Le.ite ?_ ?_)
theorem E13 (fu : Nat) (t : A0) : Le (Mh fu t) (Ha t) := (A11 fu).1 t
theorem L1p (fu : Nat) (t : A0) (n : Int) (v24 : Int) : Le (Dj fu t n v24) (Ia t n v24) := (A11 fu).2 t n v24
def En (fu : Nat) (t : A0) (m : List (Str × A0)) : Option (A0 × Int) :=
  Sk fu t >>= fun x1 =>
  if (x1 != 0) = true then
    some ((A0.mk 0 0 0 0 [] [] []), x1)
  else
    Aj fu t m >>= fun x2 =>
    if (!x2.2) = true then
      some ((A0.mk 0 0 0 0 [] [] []), 7)
    else
      Ck fu x2.1 >>= fun x3 =>
      if x3 = true then
        some ((A0.mk 0 0 0 0 [] [] []), 8)
      else
        On fu x2.1 >>= fun x4 =>
        (if (!(decide (x4 > 12))) = true then Mh fu x2.1 else some default) >>= fun x5 =>
        if (bif (decide (x4 > 12)) then true else (decide (x5 > 32))) = true then
          some ((A0.mk 0 0 0 0 [] [] []), 4)
        else
          some (x2.1, 0)
theorem D18 (fu : Nat) (t : A0) (m : List (Str × A0)) : Le (En fu t m) (Pd t m) := by
  unfold En Pd
  repeat (first | exact Le.rfl | exact Mv fu _ | exact C18 fu _ _ | exact D13 fu _ | exact X1c fu _ | exact E13 fu _ | exact R0 _ | refine Le.bind ?_ (fun _ => ?_) | refine Le.ite ?_ ?_)
def Ef : Nat → (List E0) → A0 → (List (Str × A0)) → Int → Option (A0 × Int)
  | 0, _, _, _, _ => none
  | fu + 1, decls, t, m2, v16 =>
    if (decide (v16 < ((decls).length : Int))) = true then
      idx decls v16 >>= fun x1 =>
      if (x1.Kind != 0) = true then
        Ef fu decls t m2 (IntKind.i64.wrap (v16 + 1))
      else
        Oo fu x1.Name >>= fun x2 =>
        if (!x2) = true then
          some ((A0.mk 0 0 0 0 [] [] []), 7)
        else
          some (mgt x1.Name m2) >>= fun x3 =>
          if x3.isSome = true then
            some ((A0.mk 0 0 0 0 [] [] []), 8)
          else
            En fu x1.TypeV m2 >>= fun x4 =>
            if (x4.2 != 0) = true then
              some ((A0.mk 0 0 0 0 [] [] []), x4.2)
            else
              Ef fu decls t (mpt x1.Name x4.1 m2) (IntKind.i64.wrap (v16 + 1))
    else
      En fu t m2 >>= fun x5 =>
      some (x5.1, x5.2)
theorem I15 (fu : Nat) : (∀ (decls : List E0) (t : A0) (m2 : List (Str × A0)) (v16 : Int), Le (Ef fu decls t m2 v16) (Y6 decls t m2 v16)) := by
  induction fu with
  | zero => exact fun _ _ _ _ => Le.none
  | succ fu ih =>
    have ih0 := ih
    refine fun decls t m2 v16 => ?_
    · rw [Ef, Y6]
      repeat (first | exact Le.rfl | exact ih0 _ _ _ _ | exact Zz fu _ | exact D18 fu _ _ | exact R0 _ | refine Le.bind ?_ (fun _ => ?_) | refine Le.ite ?_ ?_)
theorem S16 (fu : Nat) (decls : List E0) (t : A0) (m2 : List (Str × A0)) (v16 : Int) : Le (Ef fu decls t m2 v16) (Y6 decls t m2 v16) := (I15 fu) decls t m2 v16
def Cw (fu : Nat) (decls : List E0) (t : A0) : Option (A0 × Int) :=
  Ef fu decls t [] 0
theorem K1b (fu : Nat) (decls : List E0) (t : A0) : Le (Cw fu decls t) (Zi decls t) := by
  unfold Cw Zi
  repeat (first | exact Le.rfl | exact S16 fu _ _ _ _ | exact R0 _ | refine Le.bind ?_ (fun _ => ?_) | refine Le.ite ?_ ?_)
def Aa (fu : Nat) (c : D0) (t : A0) (before : Int) : Option (A0 × Int) :=
  slc c.p.Decls 0 before >>= fun x1 =>
  Cw fu x1 t >>= fun x2 =>
  some (x2.1, x2.2)
theorem Mc (fu : Nat) (c : D0) (t : A0) (before : Int) : Le (Aa fu c t before) (Q4 c t before) := by
  unfold Aa Q4
  repeat (first | exact Le.rfl | exact K1b fu _ _ | exact R0 _ | refine Le.bind ?_ (fun _ => ?_) | refine Le.ite ?_ ?_)
def Ud (fu : Nat) (t : A0) : Option Bool :=
  some (bif (t.Kind == 0) then true else (t.Kind == 1))
theorem Tc (fu : Nat) (t : A0) : Le (Ud fu t) (D6 t) := by
  unfold Ud D6
  repeat (first | exact Le.rfl | exact R0 _ | refine Le.bind ?_ (fun _ => ?_) | refine Le.ite ?_ ?_)
def Hb (fu : Nat) (s : Option I0) : Option (List (Str × J0) × Option I0) :=
  some ([], s)
theorem K8 (fu : Nat) (s : Option I0) : Le (Hb fu s) (O4 s) := by
  unfold Hb O4
  repeat (first | exact Le.rfl | exact R0 _ | refine Le.bind ?_ (fun _ => ?_) | refine Le.ite ?_ ?_)
def F5 (fu : Nat) (c : D0) (t : A0) (before : Int) : Option A0 :=
  Aa fu c t before >>= fun x1 =>
  some x1.1
theorem J6 (fu : Nat) (c : D0) (t : A0) (before : Int) : Le (F5 fu c t before) (U2 c t before) := by
  unfold F5 U2
  repeat (first | exact Le.rfl | exact Mc fu _ _ _ | exact R0 _ | refine Le.bind ?_ (fun _ => ?_) | refine Le.ite ?_ ?_)
def K6 : Nat → D0 → Bool → (List (Str × J0)) → (List (Str × J0) × Option I0) → (List E0) → Int → Option (Option I0)
  | 0, _, _, _, _, _, _ => none
  | fu + 1, c, variables, m0, x1, x2, v22 =>
    if (decide (v22 < ((x2).length : Int))) = true then
      idx x2 v22 >>= fun x3 =>
      if (bif (bif (bif (x3.Kind == 1) then true else (x3.Kind == 2)) then true else (x3.Kind == 3)) then true else (bif variables then (x3.Kind == 4) else false)) = true then
        F5 fu c x3.TypeV v22 >>= fun x4 =>
        K6 fu c variables (mpt x3.Name (J0.mk x4 (bif (bif (x3.Kind == 1) then true else (x3.Kind == 2)) then true else (x3.Kind == 3))) m0) x1 x2 (IntKind.i64.wrap (v22 + 1))
      else
        K6 fu c variables m0 x1 x2 (IntKind.i64.wrap (v22 + 1))
    else
      some (some (I0.mk x1.2 m0)) >>= fun x5 =>
      some x5
theorem Ss (fu : Nat) : (∀ (c : D0) (variables : Bool) (m0 : List (Str × J0)) (x1 : List (Str × J0) × Option I0) (x2 : List E0) (v22 : Int), Le (K6 fu c variables m0 x1 x2 v22) (F2 c variables m0 x1 x2 v22)) := by
  induction fu with
  | zero => exact fun _ _ _ _ _ _ => Le.none
  | succ fu ih =>
    have ih0 := ih
    refine fun c variables m0 x1 x2 v22 => ?_
    · rw [K6, F2]
      repeat (first | exact Le.rfl | exact ih0 _ _ _ _ _ _ | exact J6 fu _ _ _ | exact R0 _ | refine Le.bind ?_ (fun _ => ?_) | refine Le.ite ?_ ?_)
theorem Yt (fu : Nat) (c : D0) (variables : Bool) (m0 : List (Str × J0)) (x1 : List (Str × J0) × Option I0) (x2 : List E0) (v22 : Int) : Le (K6 fu c variables m0 x1 x2 v22) (F2 c variables m0 x1 x2 v22) := (Ss fu) c variables m0 x1 x2 v22
def Ba (fu : Nat) (c : D0) (before : Int) (variables : Bool) : Option (Option I0) :=
  Hb fu none >>= fun x1 =>
  slc c.p.Decls 0 before >>= fun x2 =>
  K6 fu c variables x1.1 x1 x2 0
theorem Zg (fu : Nat) (c : D0) (before : Int) (variables : Bool) : Le (Ba fu c before variables) (R4 c before variables) := by
  unfold Ba R4
  repeat (first | exact Le.rfl | exact K8 fu _ | exact Yt fu _ _ _ _ _ _ | exact R0 _ | refine Le.bind ?_ (fun _ => ?_) | refine Le.ite ?_ ?_)
def V3 (fu : Nat) (low : Int) (high : Int) : Option A0 :=
  some (A0.mk 1 low high 0 [] [] [])
theorem A6 (fu : Nat) (low : Int) (high : Int) : Le (V3 fu low high) (W2 low high) := by
  unfold V3 W2
  repeat (first | exact Le.rfl | exact R0 _ | refine Le.bind ?_ (fun _ => ?_) | refine Le.ite ?_ ?_)
def Ej (fu : Nat) (t : A0) : Option (A0 × Int) :=
  if (bif (t.Kind == 1) then (bif (decide (t.Low < (-1048576))) then true else (decide (t.High > 1048576))) else false) = true then
    some ((A0.mk 0 0 0 0 [] [] []), 3)
  else
    some (t, 0)
theorem Ml (fu : Nat) (t : A0) : Le (Ej fu t) (W8 t) := by
  unfold Ej W8
  repeat (first | exact Le.rfl | exact R0 _ | refine Le.bind ?_ (fun _ => ?_) | refine Le.ite ?_ ?_)
def L9 : Nat → Str → (Option I0) → Option (J0 × Bool)
  | 0, _, _ => none
  | fu + 1, name, s1 =>
    if (!s1.isNone) = true then
      s1 >>= fun x1 =>
      some (mgt name x1.vars) >>= fun x2 =>
      if x2.isSome = true then
        some ((x2.getD J0.zero), true)
      else
        s1 >>= fun x3 =>
        L9 fu name x3.around
    else
      some ((J0.mk (A0.mk 0 0 0 0 [] [] []) false), false)
theorem Wu (fu : Nat) : (∀ (name : Str) (s1 : Option I0), Le (L9 fu name s1) (Y2 name s1)) := by
  induction fu with
  | zero => exact fun _ _ => Le.none
  | succ fu ih =>
    have ih0 := ih
    refine fun name s1 => ?_
    · rw [L9, Y2]
      repeat (first | exact Le.rfl | exact ih0 _ _ | exact R0 _ | refine Le.bind ?_ (fun _ => ?_) | refine Le.ite ?_ ?_)
theorem Dw (fu : Nat) (name : Str) (s1 : Option I0) : Le (L9 fu name s1) (Y2 name s1) := (Wu fu) name s1
def Ib (fu : Nat) (s : Option I0) (name : Str) : Option (J0 × Bool) :=
  L9 fu name s
theorem Di (fu : Nat) (s : Option I0) (name : Str) : Le (Ib fu s name) (M5 s name) := by
  unfold Ib M5
  repeat (first | exact Le.rfl | exact Dw fu _ _ | exact R0 _ | refine Le.bind ?_ (fun _ => ?_) | refine Le.ite ?_ ?_)
def Jb : Nat → A0 → Str → Int → Option (A0 × Int)
  | 0, _, _, _ => none
  | fu + 1, t, name, v15 =>
    if (decide (v15 < ((t.Names).length : Int))) = true then
      idx t.Names v15 >>= fun x1 =>
      if (x1 == name) = true then
        idx t.Of v15 >>= fun x2 =>
        some (x2, 0)
      else
        Jb fu t name (IntKind.i64.wrap (v15 + 1))
    else
      some ((A0.mk 0 0 0 0 [] [] []), 7)
theorem Xx (fu : Nat) : (∀ (t : A0) (name : Str) (v15 : Int), Le (Jb fu t name v15) (B4 t name v15)) := by
  induction fu with
  | zero => exact fun _ _ _ => Le.none
  | succ fu ih =>
    have ih0 := ih
    refine fun t name v15 => ?_
    · rw [Jb, B4]
      repeat (first | exact Le.rfl | exact ih0 _ _ _ | exact R0 _ | refine Le.bind ?_ (fun _ => ?_) | refine Le.ite ?_ ?_)
theorem Uy (fu : Nat) (t : A0) (name : Str) (v15 : Int) : Le (Jb fu t name v15) (B4 t name v15) := (Xx fu) t name v15
def Fm (fu : Nat) (t : A0) (name : Str) : Option (A0 × Int) :=
  if (t.Kind != 3) = true then
    some ((A0.mk 0 0 0 0 [] [] []), 9)
  else
    Jb fu t name 0
theorem R11 (fu : Nat) (t : A0) (name : Str) : Le (Fm fu t name) (J7 t name) := by
  unfold Fm J7
  repeat (first | exact Le.rfl | exact Uy fu _ _ _ | exact R0 _ | refine Le.bind ?_ (fun _ => ?_) | refine Le.ite ?_ ?_)
def Ca : Nat → Int → (List A0) → Int → Option Bool
  | 0, _, _, _ => none
  | fu + 1, k, l, v9 =>
    if (decide (v9 < ((l).length : Int))) = true then
      idx l v9 >>= fun x1 =>
      if (x1.Kind != k) = true then
        some false
      else
        Ca fu k l (IntKind.i64.wrap (v9 + 1))
    else
      some true
theorem Ew (fu : Nat) : (∀ (k : Int) (l : List A0) (v9 : Int), Le (Ca fu k l v9) (F3 k l v9)) := by
  induction fu with
  | zero => exact fun _ _ _ => Le.none
  | succ fu ih =>
    have ih0 := ih
    refine fun k l v9 => ?_
    · rw [Ca, F3]
      repeat (first | exact Le.rfl | exact ih0 _ _ _ | exact R0 _ | refine Le.bind ?_ (fun _ => ?_) | refine Le.ite ?_ ?_)
theorem Mx (fu : Nat) (k : Int) (l : List A0) (v9 : Int) : Le (Ca fu k l v9) (F3 k l v9) := (Ew fu) k l v9
def Q9 (fu : Nat) (k : Int) (l : List A0) : Option Bool :=
  Ca fu k l 0
theorem Vp (fu : Nat) (k : Int) (l : List A0) : Le (Q9 fu k l) (V5 k l) := by
  unfold Q9 V5
  repeat (first | exact Le.rfl | exact Mx fu _ _ _ | exact R0 _ | refine Le.bind ?_ (fun _ => ?_) | refine Le.ite ?_ ?_)
def Gm (fu : Nat) (t : A0) : Option Int :=
  some (max t.High (IntKind.i64.wrap (0 - t.Low)))
theorem S11 (fu : Nat) (t : A0) : Le (Gm fu t) (Pc t) := by
  unfold Gm Pc
  repeat (first | exact Le.rfl | exact R0 _ | refine Le.bind ?_ (fun _ => ?_) | refine Le.ite ?_ ?_)
def Wd (fu : Nat) (low : Int) (high : Int) : Option A0 :=
  V3 fu low high >>= fun x7 =>
  some x7
theorem Yx (fu : Nat) (low : Int) (high : Int) : Le (Wd fu low high) (V7 low high) := by
  unfold Wd V7
  repeat (first | exact Le.rfl | exact A6 fu _ _ | exact R0 _ | refine Le.bind ?_ (fun _ => ?_) | refine Le.ite ?_ ?_)
def Xd (fu : Nat) (b : A0) (low : Int) : Option A0 :=
  if (decide (b.High > 0)) = true then
    Wd fu low (max (IntKind.i64.wrap (b.High - 1)) 0)
  else
    Wd fu low 0
theorem Zx (fu : Nat) (b : A0) (low : Int) : Le (Xd fu b low) (W7 b low) := by
  unfold Xd W7
  repeat (first | exact Le.rfl | exact Yx fu _ _ | exact R0 _ | refine Le.bind ?_ (fun _ => ?_) | refine Le.ite ?_ ?_)
def El (fu : Nat) (op : Int) (a : A0) (b : A0) : Option A0 :=
  if (op == 8) = true then
    V3 fu (IntKind.i64.wrap (a.Low + b.Low)) (IntKind.i64.wrap (a.High + b.High)) >>= fun x1 =>
    some x1
  else
    if (op == 9) = true then
      V3 fu (IntKind.i64.wrap (a.Low - b.High)) (IntKind.i64.wrap (a.High - b.Low)) >>= fun x2 =>
      some x2
    else
      if (op == 10) = true then
        V3 fu (min (min (min (IntKind.i64.wrap (a.Low * b.Low)) (IntKind.i64.wrap (a.Low * b.High))) (IntKind.i64.wrap (a.High * b.Low))) (IntKind.i64.wrap (a.High * b.High))) (max (max (max (IntKind.i64.wrap (a.Low * b.Low)) (IntKind.i64.wrap (a.Low * b.High))) (IntKind.i64.wrap (a.High * b.Low))) (IntKind.i64.wrap (a.High * b.High))) >>= fun x3 =>
        some x3
      else
        if (op == 11) = true then
          Gm fu a >>= fun x4 =>
          if (bif (decide (a.Low ≥ 0)) then (decide (b.Low ≥ 0)) else false) = true then
            V3 fu 0 x4 >>= fun x5 =>
            some x5
          else
            V3 fu (IntKind.i64.wrap (0 - x4)) x4 >>= fun x6 =>
            some x6
        else
          if (op == 12) = true then
            if (decide (b.Low < 0)) = true then
              Xd fu b (min (IntKind.i64.wrap (b.Low + 1)) 0)
            else
              Xd fu b 0
          else
            if (op == 21) = true then
              V3 fu (min a.Low b.Low) (min a.High b.High) >>= fun x8 =>
              some x8
            else
              V3 fu (max a.Low b.Low) (max a.High b.High) >>= fun x9 =>
              some x9
theorem I10 (fu : Nat) (op : Int) (a : A0) (b : A0) : Le (El fu op a b) (C8 op a b) := by
  unfold El C8
  repeat (first | exact Le.rfl | exact A6 fu _ _ | exact S11 fu _ | exact Zx fu _ _ | exact R0 _ | refine Le.bind ?_ (fun _ => ?_) | refine Le.ite ?_ ?_)
def B9 (fu : Nat) (op : Int) (kids : List A0) (x1 : Bool) (v60 : Bool) : Option (A0 × Int) :=
  if v60 = true then
    if x1 = true then
      some ((A0.mk 0 0 0 0 [] [] []), 0)
    else
      some ((A0.mk 0 0 0 0 [] [] []), 9)
  else
    if (op == 23) = true then
      slc kids 1 ((kids).length : Int) >>= fun x7 =>
      idx kids 0 >>= fun x8 =>
      if (x8.Kind != 0) = true then
        some ((A0.mk 0 0 0 0 [] [] []), 9)
      else
        Q9 fu 1 x7 >>= fun x9 =>
        if x9 = true then
          idx x7 0 >>= fun x10 =>
          idx x7 1 >>= fun x11 =>
          idx x7 0 >>= fun x12 =>
          idx x7 1 >>= fun x13 =>
          V3 fu (min x10.Low x11.Low) (max x12.High x13.High) >>= fun x14 =>
          some (x14, 0)
        else
          Q9 fu 0 x7 >>= fun x15 =>
          if x15 = true then
            some ((A0.mk 0 0 0 0 [] [] []), 0)
          else
            some ((A0.mk 0 0 0 0 [] [] []), 9)
    else
      if x1 = true then
        idx kids 0 >>= fun x16 =>
        idx kids 1 >>= fun x17 =>
        El fu op x16 x17 >>= fun x18 =>
        Ej fu x18 >>= fun x19 =>
        some (x19.1, x19.2)
      else
        some ((A0.mk 0 0 0 0 [] [] []), 9)
theorem Vy (fu : Nat) (op : Int) (kids : List A0) (x1 : Bool) (v60 : Bool) : Le (B9 fu op kids x1 v60) (T6 op kids x1 v60) := by
  unfold B9 T6
  repeat (first | exact Le.rfl | exact Vp fu _ _ | exact A6 fu _ _ | exact I10 fu _ _ _ | exact Ml fu _ | exact R0 _ | refine Le.bind ?_ (fun _ => ?_) | refine Le.ite ?_ ?_)
def Ke (fu : Nat) (op : Int) (kids : List A0) (x1 : Bool) (x2 : Bool) (v52 : Bool) : Option (A0 × Int) :=
  if v52 = true then
    if (bif x1 then true else x2) = true then
      some ((A0.mk 0 0 0 0 [] [] []), 0)
    else
      some ((A0.mk 0 0 0 0 [] [] []), 9)
  else
    if (op == 15) = true then
      B9 fu op kids x1 (op == 15)
    else
      if (op == 16) = true then
        B9 fu op kids x1 (op == 16)
      else
        if (op == 17) = true then
          B9 fu op kids x1 (op == 17)
        else
          B9 fu op kids x1 (op == 18)
theorem Wy (fu : Nat) (op : Int) (kids : List A0) (x1 : Bool) (x2 : Bool) (v52 : Bool) : Le (Ke fu op kids x1 x2 v52) (Ja op kids x1 x2 v52) := by
  unfold Ke Ja
  repeat (first | exact Le.rfl | exact Vy fu _ _ _ _ | exact R0 _ | refine Le.bind ?_ (fun _ => ?_) | refine Le.ite ?_ ?_)
def Kb (fu : Nat) (op : Int) (kids : List A0) (x1 : Bool) (x2 : Bool) (v46 : Bool) : Option (A0 × Int) :=
  if v46 = true then
    if x2 = true then
      some ((A0.mk 0 0 0 0 [] [] []), 0)
    else
      some ((A0.mk 0 0 0 0 [] [] []), 9)
  else
    if (op == 13) = true then
      Ke fu op kids x1 x2 (op == 13)
    else
      Ke fu op kids x1 x2 (op == 14)
theorem Xy (fu : Nat) (op : Int) (kids : List A0) (x1 : Bool) (x2 : Bool) (v46 : Bool) : Le (Kb fu op kids x1 x2 v46) (U6 op kids x1 x2 v46) := by
  unfold Kb U6
  repeat (first | exact Le.rfl | exact Wy fu _ _ _ _ _ | exact R0 _ | refine Le.bind ?_ (fun _ => ?_) | refine Le.ite ?_ ?_)
def Im (fu : Nat) (op : Int) (kids : List A0) : Option (A0 × Int) :=
  Q9 fu 1 kids >>= fun x1 =>
  Q9 fu 0 kids >>= fun x2 =>
  if (op == 6) = true then
    if x1 = true then
      idx kids 0 >>= fun x3 =>
      idx kids 0 >>= fun x4 =>
      V3 fu (IntKind.i64.wrap (0 - x3.High)) (IntKind.i64.wrap (0 - x4.Low)) >>= fun x5 =>
      Ej fu x5 >>= fun x6 =>
      some (x6.1, x6.2)
    else
      some ((A0.mk 0 0 0 0 [] [] []), 9)
  else
    if (op == 7) = true then
      Kb fu op kids x1 x2 (op == 7)
    else
      if (op == 19) = true then
        Kb fu op kids x1 x2 (op == 19)
      else
        Kb fu op kids x1 x2 (op == 20)
theorem T11 (fu : Nat) (op : Int) (kids : List A0) : Le (Im fu op kids) (Q8 op kids) := by
  unfold Im Q8
  repeat (first | exact Le.rfl | exact Vp fu _ _ | exact A6 fu _ _ | exact Ml fu _ | exact Xy fu _ _ _ _ _ | exact R0 _ | refine Le.bind ?_ (fun _ => ?_) | refine Le.ite ?_ ?_)
def Nj (fu : Nat) (s : Option I0) (e : C0) (kids1 : List A0) (v51 : Bool) : Option (A0 × Int) :=
  if v51 = true then
    some ((A0.mk 0 0 0 0 [] [] []), 0)
  else
    if (e.Op == 3) = true then
      Ib fu s e.Name >>= fun x4 =>
      if (!x4.2) = true then
        some ((A0.mk 0 0 0 0 [] [] []), 7)
      else
        some (x4.1.typ, 0)
    else
      if (e.Op == 4) = true then
        idx kids1 0 >>= fun x5 =>
        Fm fu x5 e.Name >>= fun x6 =>
        some (x6.1, x6.2)
      else
        if (e.Op == 5) = true then
          idx kids1 0 >>= fun x7 =>
          (if (!(x7.Kind != 2)) = true then idx kids1 1 else some default) >>= fun x8 =>
          if (bif (x7.Kind != 2) then true else (x8.Kind != 1)) = true then
            some ((A0.mk 0 0 0 0 [] [] []), 9)
          else
            idx kids1 0 >>= fun x9 =>
            idx x9.Of 0 >>= fun x10 =>
            some (x10, 0)
        else
          Im fu e.Op kids1 >>= fun x11 =>
          some (x11.1, x11.2)
theorem Zt (fu : Nat) (s : Option I0) (e : C0) (kids1 : List A0) (v51 : Bool) : Le (Nj fu s e kids1 v51) (T8 s e kids1 v51) := by
  unfold Nj T8
  repeat (first | exact Le.rfl | exact Di fu _ _ | exact R11 fu _ _ | exact T11 fu _ _ | exact R0 _ | refine Le.bind ?_ (fun _ => ?_) | refine Le.ite ?_ ?_)
mutual
def X9 : Nat → (Option I0) → C0 → Option (A0 × Int)
  | 0, _, _ => none
  | fu + 1, s, e =>
    if (decide (0 ≤ ((e.Kids).length : Int) ∧ ((e.Kids).length : Int).toNat * 97 ≤ 140737488355328)) = true then
      Zf fu s e [] 0
    else none
def Zf : Nat → (Option I0) → C0 → (List A0) → Int → Option (A0 × Int)
  | 0, _, _, _, _ => none
  | fu + 1, s, e, kids, v20 =>
    if (decide (v20 < ((e.Kids).length : Int))) = true then
      idx e.Kids v20 >>= fun x1 =>
      X9 fu s x1 >>= fun x12 =>
      if (x12.2 != 0) = true then
        some ((A0.mk 0 0 0 0 [] [] []), x12.2)
      else
        if (decide ((kids.length + 1) * 97 ≤ 140737488355328)) = true then
          Zf fu s e (kids ++ [x12.1]) (IntKind.i64.wrap (v20 + 1))
        else none
    else
      if (e.Op == 0) = true then
        V3 fu e.NV e.NV >>= fun x2 =>
        Ej fu x2 >>= fun x3 =>
        some (x3.1, x3.2)
      else
        if (e.Op == 1) = true then
          Nj fu s e kids (e.Op == 1)
        else
          Nj fu s e kids (e.Op == 2)
end
theorem Nx (fu : Nat) : (∀ (s : Option I0) (e : C0), Le (X9 fu s e) (X3 s e)) ∧ (∀ (s : Option I0) (e : C0) (kids : List A0) (v20 : Int), Le (Zf fu s e kids v20) (P7 s e kids v20)) := by
  induction fu with
  | zero => exact ⟨fun _ _ => Le.none, fun _ _ _ _ => Le.none⟩
  | succ fu ih =>
    obtain ⟨ih0, ih1⟩ := ih
    refine ⟨fun s e => ?_, fun s e kids v20 => ?_⟩
    · rw [X9, X3]
      repeat (first | exact Le.rfl | exact ih0 _ _ | exact ih1 _ _ _ _ | exact A6 fu _ _ | exact Ml fu _ | exact Zt fu _ _ _ _ | exact R0 _ | refine Le.bind ?_ (fun _ => ?_) | refine Le.ite ?_ ?_)
    · rw [Zf, P7]
      repeat (first | exact Le.rfl | exact ih0 _ _ | exact ih1 _ _ _ _ | exact A6 fu _ _ | exact Ml fu _ | exact Zt fu _ _ _ _ | exact R0 _ | refine Le.bind ?_ (fun _ => ?_) | refine Le.ite ?_ ?_)
theorem Na (fu : Nat) (s : Option I0) (e : C0) : Le (X9 fu s e) (X3 s e) := (Nx fu).1 s e
theorem E1m (fu : Nat) (s : Option I0) (e : C0) (kids : List A0) (v20 : Int) : Le (Zf fu s e kids v20) (P7 s e kids v20) := (Nx fu).2 s e kids v20
def Zn (fu : Nat) (e : C0) : Option Bool :=
  some (bif (bif (e.Op == 3) then true else (e.Op == 4)) then true else (e.Op == 5))
theorem I14 (fu : Nat) (e : C0) : Le (Zn fu e) (Cf e) := by
  unfold Zn Cf
  repeat (first | exact Le.rfl | exact R0 _ | refine Le.bind ?_ (fun _ => ?_) | refine Le.ite ?_ ?_)
mutual
def Pn : Nat → A0 → A0 → Option Bool
  | 0, _, _ => none
  | fu + 1, a, b =>
    (if (bif (bif (bif (bif (a.Kind == b.Kind) then (a.Low == b.Low) else false) then (a.High == b.High) else false) then (a.Size == b.Size) else false) then (a.Name == b.Name) else false) = true then Qb fu a.Names b.Names else some default) >>= fun x1 =>
    (if (bif (bif (bif (bif (bif (a.Kind == b.Kind) then (a.Low == b.Low) else false) then (a.High == b.High) else false) then (a.Size == b.Size) else false) then (a.Name == b.Name) else false) then x1 else false) = true then L3 fu a.Of b.Of else some default) >>= fun x2 =>
    some (bif (bif (bif (bif (bif (bif (a.Kind == b.Kind) then (a.Low == b.Low) else false) then (a.High == b.High) else false) then (a.Size == b.Size) else false) then (a.Name == b.Name) else false) then x1 else false) then x2 else false)
def L3 : Nat → (List A0) → (List A0) → Option Bool
  | 0, _, _ => none
  | fu + 1, s1, s2 =>
    if (((s1).length : Int) != ((s2).length : Int)) = true then
      some false
    else
      D2 fu s1 s2 0
def D2 : Nat → (List A0) → (List A0) → Int → Option Bool
  | 0, _, _, _ => none
  | fu + 1, s1, s2, v17 =>
    if (decide (v17 < ((s1).length : Int))) = true then
      idx s1 v17 >>= fun x1 =>
      idx s2 v17 >>= fun x2 =>
      Pn fu x1 x2 >>= fun x3 =>
      if (!x3) = true then
        some false
      else
        D2 fu s1 s2 (IntKind.i64.wrap (v17 + 1))
    else
      some true
end
theorem Au (fu : Nat) : (∀ (a : A0) (b : A0), Le (Pn fu a b) (Yc a b)) ∧ (∀ (s1 : List A0) (s2 : List A0), Le (L3 fu s1 s2) (E1 s1 s2)) ∧ (∀ (s1 : List A0) (s2 : List A0) (v17 : Int), Le (D2 fu s1 s2 v17) (X0 s1 s2 v17)) := by
  induction fu with
  | zero => exact ⟨fun _ _ => Le.none, fun _ _ => Le.none, fun _ _ _ => Le.none⟩
  | succ fu ih =>
    obtain ⟨ih0, ih1, ih2⟩ := ih
    refine ⟨fun a b => ?_, fun s1 s2 => ?_, fun s1 s2 v17 => ?_⟩
    · rw [Pn, Yc]
      repeat (first | exact Le.rfl | exact ih0 _ _ | exact ih1 _ _ | exact ih2 _ _ _ | exact I6 fu _ _ | exact R0 _ | refine Le.bind ?_ (fun _ => ?_) | refine Le.ite ?_ ?_)
    · rw [L3, E1]
      repeat (first | exact Le.rfl | exact ih0 _ _ | exact ih1 _ _ | exact ih2 _ _ _ | exact I6 fu _ _ | exact R0 _ | refine Le.bind ?_ (fun _ => ?_) | refine Le.ite ?_ ?_)
    · rw [D2, X0]
      repeat (first | exact Le.rfl | exact ih0 _ _ | exact ih1 _ _ | exact ih2 _ _ _ | exact I6 fu _ _ | exact R0 _ | refine Le.bind ?_ (fun _ => ?_) | refine Le.ite ?_ ?_)
theorem Y1c (fu : Nat) (a : A0) (b : A0) : Le (Pn fu a b) (Yc a b) := (Au fu).1 a b
theorem Xu (fu : Nat) (s1 : List A0) (s2 : List A0) : Le (L3 fu s1 s2) (E1 s1 s2) := (Au fu).2.1 s1 s2
theorem Us (fu : Nat) (s1 : List A0) (s2 : List A0) (v17 : Int) : Le (D2 fu s1 s2 v17) (X0 s1 s2 v17) := (Au fu).2.2 s1 s2 v17
def Fd (fu : Nat) (fromV : A0) (to : A0) (place : Bool) : Option Bool :=
  Ud fu fromV >>= fun x1 =>
  (if (!x1) = true then Ud fu to else some default) >>= fun x2 =>
  if (bif x1 then true else x2) = true then
    some (fromV.Kind == to.Kind)
  else
    (if place = true then Pn fu fromV to else some default) >>= fun x3 =>
    some (bif place then x3 else false)
theorem Wj (fu : Nat) (fromV : A0) (to : A0) (place : Bool) : Le (Fd fu fromV to place) (P6 fromV to place) := by
  unfold Fd P6
  repeat (first | exact Le.rfl | exact Tc fu _ | exact Y1c fu _ _ | exact R0 _ | refine Le.bind ?_ (fun _ => ?_) | refine Le.ite ?_ ?_)
def Ff (fu : Nat) (s : Option I0) (e : C0) (to : A0) : Option Int :=
  X9 fu s e >>= fun x1 =>
  (if (x1.2 == 0) = true then Zn fu e else some default) >>= fun x2 =>
  (if (x1.2 == 0) = true then Fd fu x1.1 to x2 else some default) >>= fun x3 =>
  if (bif (x1.2 == 0) then (!x3) else false) = true then
    some 9
  else
    some x1.2
theorem M9 (fu : Nat) (s : Option I0) (e : C0) (to : A0) : Le (Ff fu s e to) (E9 s e to) := by
  unfold Ff E9
  repeat (first | exact Le.rfl | exact Na fu _ _ | exact I14 fu _ | exact Wj fu _ _ _ | exact R0 _ | refine Le.bind ?_ (fun _ => ?_) | refine Le.ite ?_ ?_)
def Ag : Nat → C0 → Option Str
  | 0, _ => none
  | fu + 1, o0 =>
    if (bif (o0.Op != 3) then (decide (((o0.Kids).length : Int) > 0)) else false) = true then
      idx o0.Kids 0 >>= fun x1 =>
      Ag fu x1
    else
      some o0.Name
theorem F13 (fu : Nat) : (∀ (o0 : C0), Le (Ag fu o0) (G6 o0)) := by
  induction fu with
  | zero => exact fun _ => Le.none
  | succ fu ih =>
    have ih0 := ih
    refine fun o0 => ?_
    · rw [Ag, G6]
      repeat (first | exact Le.rfl | exact ih0 _ | exact R0 _ | refine Le.bind ?_ (fun _ => ?_) | refine Le.ite ?_ ?_)
theorem J14 (fu : Nat) (o0 : C0) : Le (Ag fu o0) (G6 o0) := (F13 fu) o0
def Es (fu : Nat) (e : C0) : Option Str :=
  Ag fu e
theorem E18 (fu : Nat) (e : C0) : Le (Es fu e) (Ni e) := by
  unfold Es Ni
  repeat (first | exact Le.rfl | exact J14 fu _ | exact R0 _ | refine Le.bind ?_ (fun _ => ?_) | refine Le.ite ?_ ?_)
def Ah (fu : Nat) (s : Option I0) (e : C0) : Option (A0 × Int) :=
  X9 fu s e >>= fun x1 =>
  if (x1.2 != 0) = true then
    some ((A0.mk 0 0 0 0 [] [] []), x1.2)
  else
    Es fu e >>= fun x2 =>
    Ib fu s x2 >>= fun x3 =>
    if x3.1.fixed = true then
      some ((A0.mk 0 0 0 0 [] [] []), 15)
    else
      some (x1.1, 0)
theorem Uc (fu : Nat) (s : Option I0) (e : C0) : Le (Ah fu s e) (S9 s e) := by
  unfold Ah S9
  repeat (first | exact Le.rfl | exact Na fu _ _ | exact E18 fu _ | exact Di fu _ _ | exact R0 _ | refine Le.bind ?_ (fun _ => ?_) | refine Le.ite ?_ ?_)
def N9 : Nat → Int → Str → (List E0) → Int → Option Int
  | 0, _, _, _, _ => none
  | fu + 1, kind, name, x1, v19 =>
    if (decide (v19 < ((x1).length : Int))) = true then
      idx x1 v19 >>= fun x2 =>
      if (bif (x2.Kind == kind) then (x2.Name == name) else false) = true then
        some v19
      else
        N9 fu kind name x1 (IntKind.i64.wrap (v19 + 1))
    else
      some (-1)
theorem Yu (fu : Nat) : (∀ (kind : Int) (name : Str) (x1 : List E0) (v19 : Int), Le (N9 fu kind name x1 v19) (Z2 kind name x1 v19)) := by
  induction fu with
  | zero => exact fun _ _ _ _ => Le.none
  | succ fu ih =>
    have ih0 := ih
    refine fun kind name x1 v19 => ?_
    · rw [N9, Z2]
      repeat (first | exact Le.rfl | exact ih0 _ _ _ _ | exact R0 _ | refine Le.bind ?_ (fun _ => ?_) | refine Le.ite ?_ ?_)
theorem Fw (fu : Nat) (kind : Int) (name : Str) (x1 : List E0) (v19 : Int) : Le (N9 fu kind name x1 v19) (Z2 kind name x1 v19) := (Yu fu) kind name x1 v19
def Me (fu : Nat) (c : D0) (kind : Int) (name : Str) (limit : Int) : Option Int :=
  slc c.p.Decls 0 limit >>= fun x1 =>
  N9 fu kind name x1 0
theorem Qo (fu : Nat) (c : D0) (kind : Int) (name : Str) (limit : Int) : Le (Me fu c kind name limit) (V6 c kind name limit) := by
  unfold Me V6
  repeat (first | exact Le.rfl | exact Fw fu _ _ _ _ | exact R0 _ | refine Le.bind ?_ (fun _ => ?_) | refine Le.ite ?_ ?_)
def O9 : Nat → D0 → (Option I0) → F0 → (A0 × Int) → E0 → Int → Int → Option Int
  | 0, _, _, _, _, _, _, _ => none
  | fu + 1, c, s, x, x1, x3, x2, v52 =>
    if (decide (v52 < ((x.Args).length : Int))) = true then
      idx x.Args v52 >>= fun x4 =>
      idx x3.Params v52 >>= fun x5 =>
      F5 fu c x5.TypeV x2 >>= fun x6 =>
      Ff fu s x4 x6 >>= fun x7 =>
      if (x7 != 0) = true then
        some x7
      else
        O9 fu c s x x1 x3 x2 (IntKind.i64.wrap (v52 + 1))
    else
      F5 fu c x3.TypeV x2 >>= fun x8 =>
      Fd fu x8 x1.1 true >>= fun x9 =>
      if (!x9) = true then
        some 9
      else
        some 0
theorem Zu (fu : Nat) : (∀ (c : D0) (s : Option I0) (x : F0) (x1 : A0 × Int) (x3 : E0) (x2 : Int) (v52 : Int), Le (O9 fu c s x x1 x3 x2 v52) (A3 c s x x1 x3 x2 v52)) := by
  induction fu with
  | zero => exact fun _ _ _ _ _ _ _ => Le.none
  | succ fu ih =>
    have ih0 := ih
    refine fun c s x x1 x3 x2 v52 => ?_
    · rw [O9, A3]
      repeat (first | exact Le.rfl | exact ih0 _ _ _ _ _ _ _ | exact J6 fu _ _ _ | exact M9 fu _ _ _ | exact Wj fu _ _ _ | exact R0 _ | refine Le.bind ?_ (fun _ => ?_) | refine Le.ite ?_ ?_)
theorem Gw (fu : Nat) (c : D0) (s : Option I0) (x : F0) (x1 : A0 × Int) (x3 : E0) (x2 : Int) (v52 : Int) : Le (O9 fu c s x x1 x3 x2 v52) (A3 c s x x1 x3 x2 v52) := (Zu fu) c s x x1 x3 x2 v52
def Fj (fu : Nat) (c : D0) (s : Option I0) (x : F0) : Option Int :=
  Ah fu s x.Place >>= fun x1 =>
  if (x1.2 != 0) = true then
    some x1.2
  else
    Me fu c 6 x.Name c.atV >>= fun x2 =>
    if (decide (x2 < 0)) = true then
      some 7
    else
      idx c.p.Decls x2 >>= fun x3 =>
      if (((x.Args).length : Int) != ((x3.Params).length : Int)) = true then
        some 2
      else
        O9 fu c s x x1 x3 x2 0
theorem Yd (fu : Nat) (c : D0) (s : Option I0) (x : F0) : Le (Fj fu c s x) (G8 c s x) := by
  unfold Fj G8
  repeat (first | exact Le.rfl | exact Uc fu _ _ | exact Qo fu _ _ _ _ | exact Gw fu _ _ _ _ _ _ _ | exact R0 _ | refine Le.bind ?_ (fun _ => ?_) | refine Le.ite ?_ ?_)
def Bh (fu : Nat) (c : D0) (s : Option I0) (x : F0) : Option Int :=
  Ah fu s x.Place >>= fun x1 =>
  if (x1.2 != 0) = true then
    some x1.2
  else
    if c.localV = true then
      some 15
    else
      Me fu c 5 x.Name c.atV >>= fun x2 =>
      if (decide (x2 < 0)) = true then
        some 7
      else
        idx c.p.Decls x2 >>= fun x3 =>
        F5 fu c x3.TypeV x2 >>= fun x4 =>
        Fd fu x4 x1.1 false >>= fun x5 =>
        if (!x5) = true then
          some 9
        else
          some 0
theorem Sb (fu : Nat) (c : D0) (s : Option I0) (x : F0) : Le (Bh fu c s x) (Q6 c s x) := by
  unfold Bh Q6
  repeat (first | exact Le.rfl | exact Uc fu _ _ | exact Qo fu _ _ _ _ | exact J6 fu _ _ _ | exact Wj fu _ _ _ | exact R0 _ | refine Le.bind ?_ (fun _ => ?_) | refine Le.ite ?_ ?_)
def Hh (fu : Nat) (s : Option I0) (e : C0) : Option Int :=
  X9 fu s e >>= fun x1 =>
  if (bif (x1.2 == 0) then (x1.1.Kind != 0) else false) = true then
    some 9
  else
    some x1.2
theorem Ng (fu : Nat) (s : Option I0) (e : C0) : Le (Hh fu s e) (S8 s e) := by
  unfold Hh S8
  repeat (first | exact Le.rfl | exact Na fu _ _ | exact R0 _ | refine Le.bind ?_ (fun _ => ?_) | refine Le.ite ?_ ?_)
def Jm (fu : Nat) (s : Option I0) (name : Str) : Option Bool :=
  Ib fu s name >>= fun x1 =>
  some x1.2
theorem Og (fu : Nat) (s : Option I0) (name : Str) : Le (Jm fu s name) (Rc s name) := by
  unfold Jm Rc
  repeat (first | exact Le.rfl | exact Di fu _ _ | exact R0 _ | refine Le.bind ?_ (fun _ => ?_) | refine Le.ite ?_ ?_)
mutual
def G4 : Nat → D0 → (Option I0) → (List F0) → Bool → Option Int
  | 0, _, _, _, _ => none
  | fu + 1, c, s, l, top =>
    C9 fu c s l top 0
def C9 : Nat → D0 → (Option I0) → (List F0) → Bool → Int → Option Int
  | 0, _, _, _, _, _ => none
  | fu + 1, c, s, l, top, v14 =>
    if (decide (v14 < ((l).length : Int))) = true then
      idx l v14 >>= fun x1 =>
      Oe fu c s x1 (bif top then (v14 == (IntKind.i64.wrap (((l).length : Int) - 1))) else false) >>= fun x2 =>
      if (x2 != 0) = true then
        some x2
      else
        C9 fu c s l top (IntKind.i64.wrap (v14 + 1))
    else
      some 0
def Oe : Nat → D0 → (Option I0) → F0 → Bool → Option Int
  | 0, _, _, _, _ => none
  | fu + 1, c, s, x, last =>
    if (x.Verb == 0) = true then
      Ah fu s x.Place >>= fun x1 =>
      if (x1.2 != 0) = true then
        some x1.2
      else
        Ff fu s x.Value x1.1 >>= fun x2 =>
        some x2
    else
      if (x.Verb == 1) = true then
        Fj fu c s x >>= fun x3 =>
        some x3
      else
        if (x.Verb == 2) = true then
          Bh fu c s x >>= fun x4 =>
          some x4
        else
          if (x.Verb == 3) = true then
            X9 fu s x.Value >>= fun x5 =>
            (if (x5.2 == 0) = true then Ud fu x5.1 else some default) >>= fun x6 =>
            if (bif (x5.2 == 0) then (!x6) else false) = true then
              some 9
            else
              some x5.2
          else
            if (x.Verb == 5) = true then
              Hh fu s x.Value >>= fun x7 =>
              if (x7 != 0) = true then
                some x7
              else
                G4 fu c s x.Then false >>= fun x10 =>
                if (x10 != 0) = true then
                  some x10
                else
                  G4 fu c s x.Else false >>= fun x11 =>
                  some x11
            else
              if (x.Verb == 6) = true then
                Hh fu s x.Value >>= fun x8 =>
                if (x8 != 0) = true then
                  some x8
                else
                  G4 fu c s x.Then false >>= fun x12 =>
                  some x12
              else
                if (x.Verb == 7) = true then
                  Pe fu c s x >>= fun x9 =>
                  some x9
                else
                  if (x.Verb == 8) = true then
                    if (!last) = true then
                      some 15
                    else
                      some 0
                  else
                    some 0
def Pe : Nat → D0 → (Option I0) → F0 → Option Int
  | 0, _, _, _ => none
  | fu + 1, c, s, x =>
    some (mgt x.Name c.names) >>= fun x1 =>
    (if (!(x1.getD ebool.zero)) = true then Jm fu s x.Name else some default) >>= fun x2 =>
    if (bif (x1.getD ebool.zero) then true else x2) = true then
      some 8
    else
      Hb fu s >>= fun x3 =>
      V3 fu x.Low x.High >>= fun x4 =>
      some (some (I0.mk x3.2 (mpt x.Name (J0.mk x4 true) x3.1))) >>= fun x5 =>
      G4 fu c x5 x.Then false >>= fun x6 =>
      some x6
end
theorem Nc (fu : Nat) : (∀ (c : D0) (s : Option I0) (l : List F0) (top : Bool), Le (G4 fu c s l top) (U1 c s l top)) ∧ (∀ (c : D0) (s : Option I0) (l : List F0) (top : Bool) (v14 : Int), Le (C9 fu c s l top v14) (H3 c s l top v14)) ∧ (∀ (c : D0) (s : Option I0) (x : F0) (last : Bool), Le (Oe fu c s x last) (X1 c s x last)) ∧ (∀ (c : D0) (s : Option I0) (x : F0), Le (Pe fu c s x) (H8 c s x)) := by
  induction fu with
  | zero => exact ⟨fun _ _ _ _ => Le.none, fun _ _ _ _ _ => Le.none, fun _ _ _ _ => Le.none, fun _ _ _ => Le.none⟩
  | succ fu ih =>
    obtain ⟨ih0, ih1, ih2, ih3⟩ := ih
    refine ⟨fun c s l top => ?_, fun c s l top v14 => ?_, fun c s x last => ?_, fun c s x => ?_⟩
    · rw [G4, U1]
      repeat (first | exact Le.rfl | exact ih0 _ _ _ _ | exact ih1 _ _ _ _ _ | exact ih2 _ _ _ _ | exact ih3 _ _ _ | exact Uc fu _ _ | exact M9 fu _ _ _ | exact Yd fu _ _ _ | exact Sb fu _ _ _ | exact Na fu _ _ | exact Tc fu _ | exact Ng fu _ _ | exact Og fu _ _ | exact K8 fu _ | exact A6 fu _ _ | exact R0 _ | refine Le.bind ?_ (fun _ => ?_) | refine Le.ite ?_ ?_)
    · rw [C9, H3]
      repeat (first | exact Le.rfl | exact ih0 _ _ _ _ | exact ih1 _ _ _ _ _ | exact ih2 _ _ _ _ | exact ih3 _ _ _ | exact Uc fu _ _ | exact M9 fu _ _ _ | exact Yd fu _ _ _ | exact Sb fu _ _ _ | exact Na fu _ _ | exact Tc fu _ | exact Ng fu _ _ | exact Og fu _ _ | exact K8 fu _ | exact A6 fu _ _ | exact R0 _ | refine Le.bind ?_ (fun _ => ?_) | refine Le.ite ?_ ?_)
    · rw [Oe, X1]
      repeat (first | exact Le.rfl | exact ih0 _ _ _ _ | exact ih1 _ _ _ _ _ | exact ih2 _ _ _ _ | exact ih3 _ _ _ | exact Uc fu _ _ | exact M9 fu _ _ _ | exact Yd fu _ _ _ | exact Sb fu _ _ _ | exact Na fu _ _ | exact Tc fu _ | exact Ng fu _ _ | exact Og fu _ _ | exact K8 fu _ | exact A6 fu _ _ | exact R0 _ | refine Le.bind ?_ (fun _ => ?_) | refine Le.ite ?_ ?_)
    · rw [Pe, H8]
      repeat (first | exact Le.rfl | exact ih0 _ _ _ _ | exact ih1 _ _ _ _ _ | exact ih2 _ _ _ _ | exact ih3 _ _ _ | exact Uc fu _ _ | exact M9 fu _ _ _ | exact Yd fu _ _ _ | exact Sb fu _ _ _ | exact Na fu _ _ | exact Tc fu _ | exact Ng fu _ _ | exact Og fu _ _ | exact K8 fu _ | exact A6 fu _ _ | exact R0 _ | refine Le.bind ?_ (fun _ => ?_) | refine Le.ite ?_ ?_)
theorem Nh (fu : Nat) (c : D0) (s : Option I0) (l : List F0) (top : Bool) : Le (G4 fu c s l top) (U1 c s l top) := (Nc fu).1 c s l top
theorem D1c (fu : Nat) (c : D0) (s : Option I0) (l : List F0) (top : Bool) (v14 : Int) : Le (C9 fu c s l top v14) (H3 c s l top v14) := (Nc fu).2.1 c s l top v14
theorem M1f (fu : Nat) (c : D0) (s : Option I0) (x : F0) (last : Bool) : Le (Oe fu c s x last) (X1 c s x last) := (Nc fu).2.2.1 c s x last
theorem N1f (fu : Nat) (c : D0) (s : Option I0) (x : F0) : Le (Pe fu c s x) (H8 c s x) := (Nc fu).2.2.2 c s x
mutual
def S7 : Nat → D0 → Int → A0 → E0 → (List (Str × J0)) → (List (Str × J0) × Option I0) → Int → Option Int
  | 0, _, _, _, _, _, _, _ => none
  | fu + 1, c, i, result, x1, m21, x2, v34 =>
    if (decide (v34 < (([x1.Params, x1.Vars]).length : Int))) = true then
      idx [x1.Params, x1.Vars] v34 >>= fun x3 =>
      T7 fu c i result x1 m21 x2 v34 x3 0
    else
      some (D0.mk c.p i true c.names) >>= fun x4 =>
      some (some (I0.mk x2.2 m21)) >>= fun x5 =>
      G4 fu x4 x5 x1.Body false >>= fun x6 =>
      if (x6 != 0) = true then
        some x6
      else
        Ff fu x5 x1.Value result >>= fun x7 =>
        some x7
def T7 : Nat → D0 → Int → A0 → E0 → (List (Str × J0)) → (List (Str × J0) × Option I0) → Int → (List E0) → Int → Option Int
  | 0, _, _, _, _, _, _, _, _, _ => none
  | fu + 1, c, i, result, x1, m2, x2, v341, x3, v40 =>
    if (decide (v40 < ((x3).length : Int))) = true then
      idx x3 v40 >>= fun x8 =>
      Aa fu c x8.TypeV i >>= fun x9 =>
      if (x9.2 != 0) = true then
        some x9.2
      else
        T7 fu c i result x1 (mpt x8.Name (J0.mk x9.1 false) m2) x2 v341 x3 (IntKind.i64.wrap (v40 + 1))
    else
      S7 fu c i result x1 m2 x2 (IntKind.i64.wrap (v341 + 1))
end
theorem Ki (fu : Nat) : (∀ (c : D0) (i : Int) (result : A0) (x1 : E0) (m21 : List (Str × J0)) (x2 : List (Str × J0) × Option I0) (v34 : Int), Le (S7 fu c i result x1 m21 x2 v34) (Q1 c i result x1 m21 x2 v34)) ∧ (∀ (c : D0) (i : Int) (result : A0) (x1 : E0) (m2 : List (Str × J0)) (x2 : List (Str × J0) × Option I0) (v341 : Int) (x3 : List E0) (v40 : Int), Le (T7 fu c i result x1 m2 x2 v341 x3 v40) (R2 c i result x1 m2 x2 v341 x3 v40)) := by
  induction fu with
  | zero => exact ⟨fun _ _ _ _ _ _ _ => Le.none, fun _ _ _ _ _ _ _ _ _ => Le.none⟩
  | succ fu ih =>
    obtain ⟨ih0, ih1⟩ := ih
    refine ⟨fun c i result x1 m21 x2 v34 => ?_, fun c i result x1 m2 x2 v341 x3 v40 => ?_⟩
    · rw [S7, Q1]
      repeat (first | exact Le.rfl | exact ih0 _ _ _ _ _ _ _ | exact ih1 _ _ _ _ _ _ _ _ _ | exact Nh fu _ _ _ _ | exact M9 fu _ _ _ | exact Mc fu _ _ _ | exact R0 _ | refine Le.bind ?_ (fun _ => ?_) | refine Le.ite ?_ ?_)
    · rw [T7, R2]
      repeat (first | exact Le.rfl | exact ih0 _ _ _ _ _ _ _ | exact ih1 _ _ _ _ _ _ _ _ _ | exact Nh fu _ _ _ _ | exact M9 fu _ _ _ | exact Mc fu _ _ _ | exact R0 _ | refine Le.bind ?_ (fun _ => ?_) | refine Le.ite ?_ ?_)
theorem Fs (fu : Nat) (c : D0) (i : Int) (result : A0) (x1 : E0) (m21 : List (Str × J0)) (x2 : List (Str × J0) × Option I0) (v34 : Int) : Le (S7 fu c i result x1 m21 x2 v34) (Q1 c i result x1 m21 x2 v34) := (Ki fu).1 c i result x1 m21 x2 v34
theorem K19 (fu : Nat) (c : D0) (i : Int) (result : A0) (x1 : E0) (m2 : List (Str × J0)) (x2 : List (Str × J0) × Option I0) (v341 : Int) (x3 : List E0) (v40 : Int) : Le (T7 fu c i result x1 m2 x2 v341 x3 v40) (R2 c i result x1 m2 x2 v341 x3 v40) := (Ki fu).2 c i result x1 m2 x2 v341 x3 v40
def Ig (fu : Nat) (c : D0) (i : Int) (result : A0) : Option Int :=
  idx c.p.Decls i >>= fun x1 =>
  Hb fu none >>= fun x2 =>
  S7 fu c i result x1 x2.1 x2 0
theorem Av (fu : Nat) (c : D0) (i : Int) (result : A0) : Le (Ig fu c i result) (E6 c i result) := by
  unfold Ig E6
  repeat (first | exact Le.rfl | exact K8 fu _ | exact Fs fu _ _ _ _ _ _ _ | exact R0 _ | refine Le.bind ?_ (fun _ => ?_) | refine Le.ite ?_ ?_)
def Gj (fu : Nat) (c : D0) (i : Int) : Option Int :=
  idx c.p.Decls i >>= fun x1 =>
  Aa fu c x1.TypeV i >>= fun x2 =>
  if (x2.2 != 0) = true then
    some x2.2
  else
    if (x1.Kind == 5) = true then
      Ud fu x2.1 >>= fun x3 =>
      if (!x3) = true then
        some 9
      else
        Ba fu c i false >>= fun x4 =>
        Ff fu x4 x1.Value x2.1 >>= fun x5 =>
        some x5
    else
      if (x1.Kind == 6) = true then
        Ig fu c i x2.1 >>= fun x6 =>
        some x6
      else
        some 0
theorem Yy (fu : Nat) (c : D0) (i : Int) : Le (Gj fu c i) (I8 c i) := by
  unfold Gj I8
  repeat (first | exact Le.rfl | exact Mc fu _ _ _ | exact Tc fu _ | exact Zg fu _ _ _ | exact M9 fu _ _ _ | exact Av fu _ _ _ | exact R0 _ | refine Le.bind ?_ (fun _ => ?_) | refine Le.ite ?_ ?_)
mutual
def Qn : Nat → A0 → Option Bool
  | 0, _ => none
  | fu + 1, t =>
    (if (!(t.Kind == 4)) = true then Y5 fu t.Of else some default) >>= fun x1 =>
    some (bif (t.Kind == 4) then true else x1)
def Y5 : Nat → (List A0) → Option Bool
  | 0, _ => none
  | fu + 1, s =>
    A7 fu s >>= fun x1 =>
    some (decide (x1 ≥ 0))
def A7 : Nat → (List A0) → Option Int
  | 0, _ => none
  | fu + 1, s =>
    F4 fu s 0
def F4 : Nat → (List A0) → Int → Option Int
  | 0, _, _ => none
  | fu + 1, s, v8 =>
    if (decide (v8 < ((s).length : Int))) = true then
      idx s v8 >>= fun x1 =>
      Qn fu x1 >>= fun x2 =>
      if x2 = true then
        some v8
      else
        F4 fu s (IntKind.i64.wrap (v8 + 1))
    else
      some (-1)
end
theorem Ro (fu : Nat) : (∀ (t : A0), Le (Qn fu t) (Zc t)) ∧ (∀ (s : List A0), Le (Y5 fu s) (Q2 s)) ∧ (∀ (s : List A0), Le (A7 fu s) (B3 s)) ∧ (∀ (s : List A0) (v8 : Int), Le (F4 fu s v8) (N1 s v8)) := by
  induction fu with
  | zero => exact ⟨fun _ => Le.none, fun _ => Le.none, fun _ => Le.none, fun _ _ => Le.none⟩
  | succ fu ih =>
    obtain ⟨ih0, ih1, ih2, ih3⟩ := ih
    refine ⟨fun t => ?_, fun s => ?_, fun s => ?_, fun s v8 => ?_⟩
    · rw [Qn, Zc]
      repeat (first | exact Le.rfl | exact ih0 _ | exact ih1 _ | exact ih2 _ | exact ih3 _ _ | exact R0 _ | refine Le.bind ?_ (fun _ => ?_) | refine Le.ite ?_ ?_)
    · rw [Y5, Q2]
      repeat (first | exact Le.rfl | exact ih0 _ | exact ih1 _ | exact ih2 _ | exact ih3 _ _ | exact R0 _ | refine Le.bind ?_ (fun _ => ?_) | refine Le.ite ?_ ?_)
    · rw [A7, B3]
      repeat (first | exact Le.rfl | exact ih0 _ | exact ih1 _ | exact ih2 _ | exact ih3 _ _ | exact R0 _ | refine Le.bind ?_ (fun _ => ?_) | refine Le.ite ?_ ?_)
    · rw [F4, N1]
      repeat (first | exact Le.rfl | exact ih0 _ | exact ih1 _ | exact ih2 _ | exact ih3 _ _ | exact R0 _ | refine Le.bind ?_ (fun _ => ?_) | refine Le.ite ?_ ?_)
theorem Z1c (fu : Nat) (t : A0) : Le (Qn fu t) (Zc t) := (Ro fu).1 t
theorem A12 (fu : Nat) (s : List A0) : Le (Y5 fu s) (Q2 s) := (Ro fu).2.1 s
theorem K14 (fu : Nat) (s : List A0) : Le (A7 fu s) (B3 s) := (Ro fu).2.2.1 s
theorem B12 (fu : Nat) (s : List A0) (v8 : Int) : Le (F4 fu s v8) (N1 s v8) := (Ro fu).2.2.2 s v8
def Ay (fu : Nat) (t : A0) : Option Int :=
  Qn fu t >>= fun x1 =>
  if x1 = true then
    some 7
  else
    Ck fu t >>= fun x2 =>
    if x2 = true then
      some 8
    else
      Mh fu t >>= fun x3 =>
      if (decide (x3 > 32)) = true then
        some 4
      else
        some 0
theorem A1d (fu : Nat) (t : A0) : Le (Ay fu t) (Sn t) := by
  unfold Ay Sn
  repeat (first | exact Le.rfl | exact Z1c fu _ | exact D13 fu _ | exact E13 fu _ | exact R0 _ | refine Le.bind ?_ (fun _ => ?_) | refine Le.ite ?_ ?_)
def Cy (fu : Nat) (t : A0) : Option Int :=
  Sk fu t >>= fun x1 =>
  if (x1 != 0) = true then
    some x1
  else
    Ay fu t >>= fun x2 =>
    some x2
theorem B1d (fu : Nat) (t : A0) : Le (Cy fu t) (Cl t) := by
  unfold Cy Cl
  repeat (first | exact Le.rfl | exact Mv fu _ | exact A1d fu _ | exact R0 _ | refine Le.bind ?_ (fun _ => ?_) | refine Le.ite ?_ ?_)
def So (fu : Nat) (s : Str) : Option Str :=
  R17 s >>= fun x1 =>
  some x1
theorem L19 (fu : Nat) (s : Str) : Le (So fu s) (Qf s) := by
  unfold So Qf
  repeat (first | exact Le.rfl | exact R0 _ | refine Le.bind ?_ (fun _ => ?_) | refine Le.ite ?_ ?_)
def Fn (fu : Nat) (path : Str) (a1 : Int) (x : A0) (s : List P0) : Option (Bool × List P0) :=
  if (x.Kind == 0) = true then
    So fu path >>= fun x1 =>
    if (decide ((s.length + 1) * 41 ≤ 140737488355328)) = true then
      some (true, (s ++ [(P0.mk x1 true 0 1)]))
    else none
  else
    if (x.Kind == 1) = true then
      So fu path >>= fun x2 =>
      if (decide ((s.length + 1) * 41 ≤ 140737488355328)) = true then
        some (true, (s ++ [(P0.mk x2 false x.Low x.High)]))
      else none
    else
      some (true, s)
theorem Km (fu : Nat) (path : Str) (a1 : Int) (x : A0) (s : List P0) : Le (Fn fu path a1 x s) (Ua path a1 x s) := by
  unfold Fn Ua
  repeat (first | exact Le.rfl | exact L19 fu _ | exact R0 _ | refine Le.bind ?_ (fun _ => ?_) | refine Le.ite ?_ ?_)
mutual
def Gf : Nat → Str → A0 → Int → (List P0) → Option (Bool × Int × List P0)
  | 0, _, _, _, _ => none
  | fu + 1, path, t, s, s1 =>
    Fn fu path s t s1 >>= fun x1 =>
    if (!x1.1) = true then
      some (false, s, x1.2)
    else
      if (t.Kind == 2) = true then
        Qe fu path t s x1.2 0
      else
        if (t.Kind == 3) = true then
          Re fu path t s x1.2 0
        else
          some (true, (IntKind.i64.wrap (s + 1)), x1.2)
def Qe : Nat → Str → A0 → Int → (List P0) → Int → Option (Bool × Int × List P0)
  | 0, _, _, _, _, _ => none
  | fu + 1, path, t, o1, o3, v25 =>
    if (decide (v25 < t.Size)) = true then
      if (decide (path.length + 1 ≤ maxLen)) = true then
        E19 v25 >>= fun x2 =>
        if (decide ((path ++ [46]).length + x2.length ≤ maxLen)) = true then
          idx t.Of 0 >>= fun x3 =>
          Gf fu ((path ++ [46]) ++ x2) x3 o1 o3 >>= fun x6 =>
          if (!x6.1) = true then
            some (false, x6.2.1, x6.2.2)
          else
            Qe fu path t x6.2.1 x6.2.2 (IntKind.i64.wrap (v25 + 1))
        else none
      else none
    else
      some (true, o1, o3)
def Re : Nat → Str → A0 → Int → (List P0) → Int → Option (Bool × Int × List P0)
  | 0, _, _, _, _, _ => none
  | fu + 1, path, t, o11, o31, v46 =>
    if (decide (v46 < ((t.Of).length : Int))) = true then
      idx t.Of v46 >>= fun x4 =>
      if (decide (path.length + 1 ≤ maxLen)) = true then
        idx t.Names v46 >>= fun x5 =>
        if (decide ((path ++ [46]).length + x5.length ≤ maxLen)) = true then
          Gf fu ((path ++ [46]) ++ x5) x4 o11 o31 >>= fun x7 =>
          if (!x7.1) = true then
            some (false, x7.2.1, x7.2.2)
          else
            Re fu path t x7.2.1 x7.2.2 (IntKind.i64.wrap (v46 + 1))
        else none
      else none
    else
      some (true, o11, o31)
end
theorem Ao (fu : Nat) : (∀ (path : Str) (t : A0) (s : Int) (s1 : List P0), Le (Gf fu path t s s1) (W5 path t s s1)) ∧ (∀ (path : Str) (t : A0) (o1 : Int) (o3 : List P0) (v25 : Int), Le (Qe fu path t o1 o3 v25) (Q5 path t o1 o3 v25)) ∧ (∀ (path : Str) (t : A0) (o11 : Int) (o31 : List P0) (v46 : Int), Le (Re fu path t o11 o31 v46) (P5 path t o11 o31 v46)) := by
  induction fu with
  | zero => exact ⟨fun _ _ _ _ => Le.none, fun _ _ _ _ _ => Le.none, fun _ _ _ _ _ => Le.none⟩
  | succ fu ih =>
    obtain ⟨ih0, ih1, ih2⟩ := ih
    refine ⟨fun path t s s1 => ?_, fun path t o1 o3 v25 => ?_, fun path t o11 o31 v46 => ?_⟩
    · rw [Gf, W5]
      repeat (first | exact Le.rfl | exact ih0 _ _ _ _ | exact ih1 _ _ _ _ _ | exact ih2 _ _ _ _ _ | exact Km fu _ _ _ _ | exact R0 _ | refine Le.bind ?_ (fun _ => ?_) | refine Le.ite ?_ ?_)
    · rw [Qe, Q5]
      repeat (first | exact Le.rfl | exact ih0 _ _ _ _ | exact ih1 _ _ _ _ _ | exact ih2 _ _ _ _ _ | exact Km fu _ _ _ _ | exact R0 _ | refine Le.bind ?_ (fun _ => ?_) | refine Le.ite ?_ ?_)
    · rw [Re, P5]
      repeat (first | exact Le.rfl | exact ih0 _ _ _ _ | exact ih1 _ _ _ _ _ | exact ih2 _ _ _ _ _ | exact Km fu _ _ _ _ | exact R0 _ | refine Le.bind ?_ (fun _ => ?_) | refine Le.ite ?_ ?_)
theorem T16 (fu : Nat) (path : Str) (t : A0) (s : Int) (s1 : List P0) : Le (Gf fu path t s s1) (W5 path t s s1) := (Ao fu).1 path t s s1
theorem F1k (fu : Nat) (path : Str) (t : A0) (o1 : Int) (o3 : List P0) (v25 : Int) : Le (Qe fu path t o1 o3 v25) (Q5 path t o1 o3 v25) := (Ao fu).2.1 path t o1 o3 v25
theorem G1k (fu : Nat) (path : Str) (t : A0) (o11 : Int) (o31 : List P0) (v46 : Int) : Le (Re fu path t o11 o31 v46) (P5 path t o11 o31 v46) := (Ao fu).2.2 path t o11 o31 v46
def Bu (fu : Nat) (t : A0) (s : List P0) : Option (List P0) :=
  Gf fu [] t 0 s >>= fun x1 =>
  some x1.2.2
theorem M19 (fu : Nat) (t : A0) (s : List P0) : Le (Bu fu t s) (Bk t s) := by
  unfold Bu Bk
  repeat (first | exact Le.rfl | exact T16 fu _ _ _ _ | exact R0 _ | refine Le.bind ?_ (fun _ => ?_) | refine Le.ite ?_ ?_)
def Cu (fu : Nat) (t : A0) : Option (List P0 × Int) :=
  Cy fu t >>= fun x1 =>
  if (x1 != 0) = true then
    some ([], x1)
  else
    Bu fu t [] >>= fun x2 =>
    some (x2, 0)
theorem Gs (fu : Nat) (t : A0) : Le (Cu fu t) (Lh t) := by
  unfold Cu Lh
  repeat (first | exact Le.rfl | exact B1d fu _ | exact M19 fu _ _ | exact R0 _ | refine Le.bind ?_ (fun _ => ?_) | refine Le.ite ?_ ?_)
def Uh (fu : Nat) (a : Int) (b : Int) : Option Int :=
  some (min (IntKind.i64.wrap (a * b)) 1073741824)
theorem Uk (fu : Nat) (a : Int) (b : Int) : Le (Uh fu a b) (He a b) := by
  unfold Uh He
  repeat (first | exact Le.rfl | exact R0 _ | refine Le.bind ?_ (fun _ => ?_) | refine Le.ite ?_ ?_)
def Hj (fu : Nat) (a : Int) (b : Int) : Option Int :=
  some (min (IntKind.i64.wrap (a + b)) 1073741824)
theorem Ly (fu : Nat) (a : Int) (b : Int) : Le (Hj fu a b) (Gg a b) := by
  unfold Hj Gg
  repeat (first | exact Le.rfl | exact R0 _ | refine Le.bind ?_ (fun _ => ?_) | refine Le.ite ?_ ?_)
def Pg (fu : Nat) (a : K0) (b : K0) : Option K0 :=
  Hj fu a.steps b.steps >>= fun x1 =>
  Hj fu a.outputs b.outputs >>= fun x2 =>
  some (K0.mk x1 x2)
theorem Xj (fu : Nat) (a : K0) (b : K0) : Le (Pg fu a b) (T9 a b) := by
  unfold Pg T9
  repeat (first | exact Le.rfl | exact Ly fu _ _ | exact R0 _ | refine Le.bind ?_ (fun _ => ?_) | refine Le.ite ?_ ?_)
def Yj (fu : Nat) (a : K0) (b : K0) : Option K0 :=
  some (K0.mk (max a.steps b.steps) (max a.outputs b.outputs))
theorem Ij (fu : Nat) (a : K0) (b : K0) : Le (Yj fu a b) (Td a b) := by
  unfold Yj Td
  repeat (first | exact Le.rfl | exact R0 _ | refine Le.bind ?_ (fun _ => ?_) | refine Le.ite ?_ ?_)
def Vk (fu : Nat) (n : Int) (body : K0) : Option K0 :=
  Hj fu 1 body.steps >>= fun x1 =>
  Uh fu n x1 >>= fun x2 =>
  Uh fu n body.outputs >>= fun x3 =>
  some (K0.mk x2 x3)
theorem Bo (fu : Nat) (n : Int) (body : K0) : Le (Vk fu n body) (Kd n body) := by
  unfold Vk Kd
  repeat (first | exact Le.rfl | exact Ly fu _ _ | exact Uk fu _ _ | exact R0 _ | refine Le.bind ?_ (fun _ => ?_) | refine Le.ite ?_ ?_)
mutual
def H4 : Nat → (List F0) → (List (Str × K0)) → Option K0
  | 0, _, _ => none
  | fu + 1, l, m =>
    D9 fu l m (K0.mk 0 0) 0
def D9 : Nat → (List F0) → (List (Str × K0)) → K0 → Int → Option K0
  | 0, _, _, _, _ => none
  | fu + 1, l, m, o3, v11 =>
    if (decide (v11 < ((l).length : Int))) = true then
      idx l v11 >>= fun x1 =>
      Pg fu o3 (K0.mk 1 0) >>= fun x2 =>
      Se fu x1 m >>= fun x3 =>
      Pg fu x2 x3 >>= fun x4 =>
      D9 fu l m x4 (IntKind.i64.wrap (v11 + 1))
    else
      some o3
def Se : Nat → F0 → (List (Str × K0)) → Option K0
  | 0, _, _ => none
  | fu + 1, x, m =>
    if (x.Verb == 3) = true then
      some (K0.mk 0 1)
    else
      if (x.Verb == 1) = true then
        some (mgt x.Name m) >>= fun x1 =>
        some (x1.getD K0.zero)
      else
        if (x.Verb == 5) = true then
          H4 fu x.Then m >>= fun x2 =>
          H4 fu x.Else m >>= fun x3 =>
          Yj fu x2 x3 >>= fun x4 =>
          some x4
        else
          if (x.Verb == 6) = true then
            H4 fu x.Then m >>= fun x5 =>
            Vk fu x.NV x5 >>= fun x6 =>
            some x6
          else
            if (x.Verb == 7) = true then
              H4 fu x.Then m >>= fun x7 =>
              Vk fu (IntKind.i64.wrap ((IntKind.i64.wrap (x.High - x.Low)) + 1)) x7 >>= fun x8 =>
              some x8
            else
              some (K0.mk 0 0)
end
theorem Ch (fu : Nat) : (∀ (l : List F0) (m : List (Str × K0)), Le (H4 fu l m) (Z1 l m)) ∧ (∀ (l : List F0) (m : List (Str × K0)) (o3 : K0) (v11 : Int), Le (D9 fu l m o3 v11) (I3 l m o3 v11)) ∧ (∀ (x : F0) (m : List (Str × K0)), Le (Se fu x m) (W6 x m)) := by
  induction fu with
  | zero => exact ⟨fun _ _ => Le.none, fun _ _ _ _ => Le.none, fun _ _ => Le.none⟩
  | succ fu ih =>
    obtain ⟨ih0, ih1, ih2⟩ := ih
    refine ⟨fun l m => ?_, fun l m o3 v11 => ?_, fun x m => ?_⟩
    · rw [H4, Z1]
      repeat (first | exact Le.rfl | exact ih0 _ _ | exact ih1 _ _ _ _ | exact ih2 _ _ | exact Xj fu _ _ | exact Ij fu _ _ | exact Bo fu _ _ | exact R0 _ | refine Le.bind ?_ (fun _ => ?_) | refine Le.ite ?_ ?_)
    · rw [D9, I3]
      repeat (first | exact Le.rfl | exact ih0 _ _ | exact ih1 _ _ _ _ | exact ih2 _ _ | exact Xj fu _ _ | exact Ij fu _ _ | exact Bo fu _ _ | exact R0 _ | refine Le.bind ?_ (fun _ => ?_) | refine Le.ite ?_ ?_)
    · rw [Se, W6]
      repeat (first | exact Le.rfl | exact ih0 _ _ | exact ih1 _ _ _ _ | exact ih2 _ _ | exact Xj fu _ _ | exact Ij fu _ _ | exact Bo fu _ _ | exact R0 _ | refine Le.bind ?_ (fun _ => ?_) | refine Le.ite ?_ ?_)
theorem Dy (fu : Nat) (l : List F0) (m : List (Str × K0)) : Le (H4 fu l m) (Z1 l m) := (Ch fu).1 l m
theorem E1c (fu : Nat) (l : List F0) (m : List (Str × K0)) (o3 : K0) (v11 : Int) : Le (D9 fu l m o3 v11) (I3 l m o3 v11) := (Ch fu).2.1 l m o3 v11
theorem O1f (fu : Nat) (x : F0) (m : List (Str × K0)) : Le (Se fu x m) (W6 x m) := (Ch fu).2.2 x m
def Ma : Nat → N0 → (List (Str × K0)) → Int → Option K0
  | 0, _, _, _ => none
  | fu + 1, p, m2, v11 =>
    if (decide (v11 < ((p.Decls).length : Int))) = true then
      idx p.Decls v11 >>= fun x1 =>
      if (x1.Kind == 6) = true then
        H4 fu x1.Body m2 >>= fun x2 =>
        Ma fu p (mpt x1.Name x2 m2) (IntKind.i64.wrap (v11 + 1))
      else
        Ma fu p m2 (IntKind.i64.wrap (v11 + 1))
    else
      H4 fu p.Body m2 >>= fun x3 =>
      some x3
theorem A10 (fu : Nat) : (∀ (p : N0) (m2 : List (Str × K0)) (v11 : Int), Le (Ma fu p m2 v11) (D4 p m2 v11)) := by
  induction fu with
  | zero => exact fun _ _ _ => Le.none
  | succ fu ih =>
    have ih0 := ih
    refine fun p m2 v11 => ?_
    · rw [Ma, D4]
      repeat (first | exact Le.rfl | exact ih0 _ _ _ | exact Dy fu _ _ | exact R0 _ | refine Le.bind ?_ (fun _ => ?_) | refine Le.ite ?_ ?_)
theorem J10 (fu : Nat) (p : N0) (m2 : List (Str × K0)) (v11 : Int) : Le (Ma fu p m2 v11) (D4 p m2 v11) := (A10 fu) p m2 v11
def Oj (fu : Nat) (p : N0) : Option K0 :=
  Ma fu p [] 0
theorem Ei (fu : Nat) (p : N0) : Le (Oj fu p) (Dc p) := by
  unfold Oj Dc
  repeat (first | exact Le.rfl | exact J10 fu _ _ _ | exact R0 _ | refine Le.bind ?_ (fun _ => ?_) | refine Le.ite ?_ ?_)
mutual
def A5 : Nat → D0 → (List (Int × Int)) → Int → Int → Int → Option Int
  | 0, _, _, _, _, _ => none
  | fu + 1, c, m0, scalars, hatches1, v23 =>
    if (decide (v23 < ((c.p.Decls).length : Int))) = true then
      idx c.p.Decls v23 >>= fun x1 =>
      some (Xm x1.Kind m0) >>= fun x2 =>
      if (x1.Kind == 5) = true then
        M8 fu c m0 x1 scalars (IntKind.i64.wrap (hatches1 + 1)) v23 x2 v23
      else
        M8 fu c m0 x1 scalars hatches1 v23 x2 v23
    else
      Oj fu c.p >>= fun x5 =>
      if (decide (scalars > 64)) = true then
        if (decide (scalars > 64)) = true then
          some 4
        else
          some 0
      else
        if (decide (hatches1 > 8)) = true then
          if (decide (hatches1 > 8)) = true then
            some 4
          else
            some 0
        else
          some (Xm 1 m0) >>= fun x6 =>
          if (decide ((x6.getD ei64.zero) > 4096)) = true then
            if (decide ((x6.getD ei64.zero) > 4096)) = true then
              some 4
            else
              some 0
          else
            some (Xm 2 m0) >>= fun x7 =>
            if (decide ((x7.getD ei64.zero) > 4096)) = true then
              if (decide ((x7.getD ei64.zero) > 4096)) = true then
                some 4
              else
                some 0
            else
              some (Xm 3 m0) >>= fun x8 =>
              if (decide ((x8.getD ei64.zero) > 256)) = true then
                if (decide ((x8.getD ei64.zero) > 256)) = true then
                  some 4
                else
                  some 0
              else
                if (decide (x5.steps > 4096)) = true then
                  if (decide (x5.steps > 4096)) = true then
                    some 4
                  else
                    some 0
                else
                  if (decide (x5.outputs > 8)) = true then
                    some 4
                  else
                    some 0
def M8 : Nat → D0 → (List (Int × Int)) → E0 → Int → Int → Int → (Option Int) → Int → Option Int
  | 0, _, _, _, _, _, _, _, _ => none
  | fu + 1, c, m01, x1, scalars1, hatches, i, x2, v231 =>
    if (bif (!x2.isSome) then (x1.Kind != 4) else false) = true then
      A5 fu c m01 scalars1 hatches (IntKind.i64.wrap (v231 + 1))
    else
      F5 fu c x1.TypeV i >>= fun x3 =>
      Cu fu x3 >>= fun x4 =>
      L6 fu c m01 x1 (IntKind.i64.wrap (scalars1 + ((x4.1).length : Int))) hatches (x2.getD ei64.zero) x2 v231 x4 0
def L6 : Nat → D0 → (List (Int × Int)) → E0 → Int → Int → Int → (Option Int) → Int → (List P0 × Int) → Int → Option Int
  | 0, _, _, _, _, _, _, _, _, _, _ => none
  | fu + 1, c, m02, x1, scalars2, hatches, n, x2, v231, x4, v62 =>
    if (decide (v62 < ((x4.1).length : Int))) = true then
      idx x4.1 v62 >>= fun x9 =>
      if x2.isSome = true then
        Uh fu n (IntKind.i64.wrap ((IntKind.i64.wrap (x9.High - x9.Low)) + 1)) >>= fun x10 =>
        L6 fu c m02 x1 scalars2 hatches x10 x2 v231 x4 (IntKind.i64.wrap (v62 + 1))
      else
        L6 fu c m02 x1 scalars2 hatches n x2 v231 x4 (IntKind.i64.wrap (v62 + 1))
    else
      if x2.isSome = true then
        A5 fu c (Sx x1.Kind n m02) scalars2 hatches (IntKind.i64.wrap (v231 + 1))
      else
        A5 fu c m02 scalars2 hatches (IntKind.i64.wrap (v231 + 1))
end
theorem Be (fu : Nat) : (∀ (c : D0) (m0 : List (Int × Int)) (scalars : Int) (hatches1 : Int) (v23 : Int), Le (A5 fu c m0 scalars hatches1 v23) (V1 c m0 scalars hatches1 v23)) ∧ (∀ (c : D0) (m01 : List (Int × Int)) (x1 : E0) (scalars1 : Int) (hatches : Int) (i : Int) (x2 : Option Int) (v231 : Int), Le (M8 fu c m01 x1 scalars1 hatches i x2 v231) (S3 c m01 x1 scalars1 hatches i x2 v231)) ∧ (∀ (c : D0) (m02 : List (Int × Int)) (x1 : E0) (scalars2 : Int) (hatches : Int) (n : Int) (x2 : Option Int) (v231 : Int) (x4 : List P0 × Int) (v62 : Int), Le (L6 fu c m02 x1 scalars2 hatches n x2 v231 x4 v62) (O2 c m02 x1 scalars2 hatches n x2 v231 x4 v62)) := by
  induction fu with
  | zero => exact ⟨fun _ _ _ _ _ => Le.none, fun _ _ _ _ _ _ _ _ => Le.none, fun _ _ _ _ _ _ _ _ _ _ => Le.none⟩
  | succ fu ih =>
    obtain ⟨ih0, ih1, ih2⟩ := ih
    refine ⟨fun c m0 scalars hatches1 v23 => ?_, fun c m01 x1 scalars1 hatches i x2 v231 => ?_, fun c m02 x1 scalars2 hatches n x2 v231 x4 v62 => ?_⟩
    · rw [A5, V1]
      repeat (first | exact Le.rfl | exact ih0 _ _ _ _ _ | exact ih1 _ _ _ _ _ _ _ _ | exact ih2 _ _ _ _ _ _ _ _ _ _ | exact Ei fu _ | exact J6 fu _ _ _ | exact Gs fu _ | exact Uk fu _ _ | exact R0 _ | refine Le.bind ?_ (fun _ => ?_) | refine Le.ite ?_ ?_)
    · rw [M8, S3]
      repeat (first | exact Le.rfl | exact ih0 _ _ _ _ _ | exact ih1 _ _ _ _ _ _ _ _ | exact ih2 _ _ _ _ _ _ _ _ _ _ | exact Ei fu _ | exact J6 fu _ _ _ | exact Gs fu _ | exact Uk fu _ _ | exact R0 _ | refine Le.bind ?_ (fun _ => ?_) | refine Le.ite ?_ ?_)
    · rw [L6, O2]
      repeat (first | exact Le.rfl | exact ih0 _ _ _ _ _ | exact ih1 _ _ _ _ _ _ _ _ | exact ih2 _ _ _ _ _ _ _ _ _ _ | exact Ei fu _ | exact J6 fu _ _ _ | exact Gs fu _ | exact Uk fu _ _ | exact R0 _ | refine Le.bind ?_ (fun _ => ?_) | refine Le.ite ?_ ?_)
theorem Du (fu : Nat) (c : D0) (m0 : List (Int × Int)) (scalars : Int) (hatches1 : Int) (v23 : Int) : Le (A5 fu c m0 scalars hatches1 v23) (V1 c m0 scalars hatches1 v23) := (Be fu).1 c m0 scalars hatches1 v23
theorem L1b (fu : Nat) (c : D0) (m01 : List (Int × Int)) (x1 : E0) (scalars1 : Int) (hatches : Int) (i : Int) (x2 : Option Int) (v231 : Int) : Le (M8 fu c m01 x1 scalars1 hatches i x2 v231) (S3 c m01 x1 scalars1 hatches i x2 v231) := (Be fu).2.1 c m01 x1 scalars1 hatches i x2 v231
theorem M1b (fu : Nat) (c : D0) (m02 : List (Int × Int)) (x1 : E0) (scalars2 : Int) (hatches : Int) (n : Int) (x2 : Option Int) (v231 : Int) (x4 : List P0 × Int) (v62 : Int) : Le (L6 fu c m02 x1 scalars2 hatches n x2 v231 x4 v62) (O2 c m02 x1 scalars2 hatches n x2 v231 x4 v62) := (Be fu).2.2 c m02 x1 scalars2 hatches n x2 v231 x4 v62
def Oh (fu : Nat) (c : D0) : Option Int :=
  A5 fu c (Sx 3 1 (Sx 2 1 (Sx 1 1 []))) 0 0 0
theorem Ox (fu : Nat) (c : D0) : Le (Oh fu c) (X8 c) := by
  unfold Oh X8
  repeat (first | exact Le.rfl | exact Du fu _ _ _ _ _ | exact R0 _ | refine Le.bind ?_ (fun _ => ?_) | refine Le.ite ?_ ?_)
def Te : Nat → N0 → D0 → Int → Option (Int × Int)
  | 0, _, _, _ => none
  | fu + 1, p, x3, v46 =>
    if (decide (v46 < ((p.Decls).length : Int))) = true then
      Gj fu x3 v46 >>= fun x5 =>
      if (x5 != 0) = true then
        some (v46, x5)
      else
        Te fu p x3 (IntKind.i64.wrap (v46 + 1))
    else
      Ba fu x3 ((p.Decls).length : Int) true >>= fun x6 =>
      G4 fu x3 x6 p.Body true >>= fun x7 =>
      if (x7 != 0) = true then
        some ((-1), x7)
      else
        Oh fu x3 >>= fun x8 =>
        some ((-1), x8)
theorem U11 (fu : Nat) : (∀ (p : N0) (x3 : D0) (v46 : Int), Le (Te fu p x3 v46) (R5 p x3 v46)) := by
  induction fu with
  | zero => exact fun _ _ _ => Le.none
  | succ fu ih =>
    have ih0 := ih
    refine fun p x3 v46 => ?_
    · rw [Te, R5]
      repeat (first | exact Le.rfl | exact ih0 _ _ _ | exact Yy fu _ _ | exact Zg fu _ _ _ | exact Nh fu _ _ _ _ | exact Ox fu _ | exact R0 _ | refine Le.bind ?_ (fun _ => ?_) | refine Le.ite ?_ ?_)
theorem G13 (fu : Nat) (p : N0) (x3 : D0) (v46 : Int) : Le (Te fu p x3 v46) (R5 p x3 v46) := (U11 fu) p x3 v46
def Ue : Nat → N0 → (List (Str × Bool)) → Int → Option (Int × Int)
  | 0, _, _, _ => none
  | fu + 1, p, m1, v27 =>
    if (decide (v27 < ((p.Decls).length : Int))) = true then
      idx p.Decls v27 >>= fun x2 =>
      Ue fu p (mpt x2.Name true m1) (IntKind.i64.wrap (v27 + 1))
    else
      some (D0.mk p ((p.Decls).length : Int) false m1) >>= fun x3 =>
      Sf fu x3 >>= fun x4 =>
      if (decide (x4 ≥ 0)) = true then
        some (x4, 8)
      else
        Te fu p x3 0
theorem V11 (fu : Nat) : (∀ (p : N0) (m1 : List (Str × Bool)) (v27 : Int), Le (Ue fu p m1 v27) (S5 p m1 v27)) := by
  induction fu with
  | zero => exact fun _ _ _ => Le.none
  | succ fu ih =>
    have ih0 := ih
    refine fun p m1 v27 => ?_
    · rw [Ue, S5]
      repeat (first | exact Le.rfl | exact ih0 _ _ _ | exact Xt fu _ | exact G13 fu _ _ _ | exact R0 _ | refine Le.bind ?_ (fun _ => ?_) | refine Le.ite ?_ ?_)
theorem H13 (fu : Nat) (p : N0) (m1 : List (Str × Bool)) (v27 : Int) : Le (Ue fu p m1 v27) (S5 p m1 v27) := (V11 fu) p m1 v27
def Jf (fu : Nat) (p : N0) : Option (Int × Int) :=
  Bw fu p >>= fun x1 =>
  if (x1 != 0) = true then
    some ((-1), x1)
  else
    Ue fu p [] 0
theorem Wp (fu : Nat) (p : N0) : Le (Jf fu p) (X5 p) := by
  unfold Jf X5
  repeat (first | exact Le.rfl | exact J1b fu _ | exact H13 fu _ _ _ | exact R0 _ | refine Le.bind ?_ (fun _ => ?_) | refine Le.ite ?_ ?_)
def Xp (fu : Nat) (e : C0) : Option Int :=
  W9 fu e 1 (B0.mk 0 0 false false false) >>= fun x1 =>
  Je fu x1 >>= fun x2 =>
  some x2
theorem J15 (fu : Nat) (e : C0) : Le (Xp fu e) (Ld e) := by
  unfold Xp Ld
  repeat (first | exact Le.rfl | exact Z8 fu _ _ _ | exact Em fu _ | exact R0 _ | refine Le.bind ?_ (fun _ => ?_) | refine Le.ite ?_ ?_)
def Yp (fu : Nat) (p : N0) (e : C0) : Option (A0 × Int) :=
  Jf fu p >>= fun x1 =>
  if (x1.2 != 0) = true then
    some ((A0.mk 0 0 0 0 [] [] []), x1.2)
  else
    Xp fu e >>= fun x2 =>
    if (x2 != 0) = true then
      some ((A0.mk 0 0 0 0 [] [] []), x2)
    else
      some (D0.mk p 0 false []) >>= fun x3 =>
      Ba fu x3 ((p.Decls).length : Int) true >>= fun x4 =>
      X9 fu x4 e >>= fun x5 =>
      some (x5.1, x5.2)
theorem K15 (fu : Nat) (p : N0) (e : C0) : Le (Yp fu p e) (U9 p e) := by
  unfold Yp U9
  repeat (first | exact Le.rfl | exact Wp fu _ | exact J15 fu _ | exact Zg fu _ _ _ | exact Na fu _ _ | exact R0 _ | refine Le.bind ?_ (fun _ => ?_) | refine Le.ite ?_ ?_)
def Pq (fu : Nat) (p : N0) (e : C0) : Option (Int × Int × Int) :=
  Yp fu p e >>= fun x1 =>
  if (x1.2 != 0) = true then
    some (0, 0, x1.2)
  else
    if (x1.1.Kind != 1) = true then
      some (0, 0, 9)
    else
      some (x1.1.Low, x1.1.High, 0)
theorem U16 (fu : Nat) (p : N0) (e : C0) : Le (Pq fu p e) (Mk p e) := by
  unfold Pq Mk
  repeat (first | exact Le.rfl | exact K15 fu _ _ | exact R0 _ | refine Le.bind ?_ (fun _ => ?_) | refine Le.ite ?_ ?_)
def Qq (fu : Nat) (p : N0) : Option (Int × Int) :=
  Jf fu p >>= fun x1 =>
  if (x1.2 != 0) = true then
    some (0, x1.2)
  else
    Oj fu p >>= fun x2 =>
    some (x2.steps, 0)
theorem V16 (fu : Nat) (p : N0) : Le (Qq fu p) (Qk p) := by
  unfold Qq Qk
  repeat (first | exact Le.rfl | exact Wp fu _ | exact Ei fu _ | exact R0 _ | refine Le.bind ?_ (fun _ => ?_) | refine Le.ite ?_ ?_)
def W14 (fu : Nat) : Option Bool :=
  Dm fu [120] >>= fun x1 =>
  Dm fu [112, 105, 110] >>= fun x2 =>
  Tn fu 2 >>= fun x3 =>
  Sp fu 10 [x2, x3] >>= fun x4 =>
  Tn fu 1 >>= fun x5 =>
  Sp fu 8 [x4, x5] >>= fun x6 =>
  Dm fu [120] >>= fun x7 =>
  Tn fu 3 >>= fun x8 =>
  Sp fu 13 [x7, x8] >>= fun x9 =>
  Jf fu (N0.mk [(E0.mk 1 [112, 105, 110] (A0.mk 1 0 9 0 [] [] []) 0 (C0.mk 0 0 [] []) [] [] []), (E0.mk 4 [120] (A0.mk 1 0 3 0 [] [] []) 0 (C0.mk 0 0 [] []) [] [] [])] [(F0.mk 0 x1 x6 [] [] 0 0 0 [] [] []), (F0.mk 3 (C0.mk 0 0 [] []) x9 [] [] 0 0 0 [] [] [])]) >>= fun x10 =>
  idx [(F0.mk 0 x1 x6 [] [] 0 0 0 [] [] []), (F0.mk 3 (C0.mk 0 0 [] []) x9 [] [] 0 0 0 [] [] [])] 0 >>= fun x11 =>
  Pq fu (N0.mk [(E0.mk 1 [112, 105, 110] (A0.mk 1 0 9 0 [] [] []) 0 (C0.mk 0 0 [] []) [] [] []), (E0.mk 4 [120] (A0.mk 1 0 3 0 [] [] []) 0 (C0.mk 0 0 [] []) [] [] [])] [(F0.mk 0 x1 x6 [] [] 0 0 0 [] [] []), (F0.mk 3 (C0.mk 0 0 [] []) x9 [] [] 0 0 0 [] [] [])]) x11.Value >>= fun x12 =>
  Qq fu (N0.mk [(E0.mk 1 [112, 105, 110] (A0.mk 1 0 9 0 [] [] []) 0 (C0.mk 0 0 [] []) [] [] []), (E0.mk 4 [120] (A0.mk 1 0 3 0 [] [] []) 0 (C0.mk 0 0 [] []) [] [] [])] [(F0.mk 0 x1 x6 [] [] 0 0 0 [] [] []), (F0.mk 3 (C0.mk 0 0 [] []) x9 [] [] 0 0 0 [] [] [])]) >>= fun x13 =>
  Dm fu [112, 105, 110] >>= fun x14 =>
  Tn fu 1 >>= fun x15 =>
  Jf fu (N0.mk [(E0.mk 1 [112, 105, 110] (A0.mk 1 0 9 0 [] [] []) 0 (C0.mk 0 0 [] []) [] [] []), (E0.mk 4 [120] (A0.mk 1 0 3 0 [] [] []) 0 (C0.mk 0 0 [] []) [] [] [])] [(F0.mk 0 x14 x15 [] [] 0 0 0 [] [] [])]) >>= fun x16 =>
  some (bif (bif (bif (bif (bif (bif (bif (bif (x10.1 == (-1)) then (x10.2 == 0) else false) then (x12.1 == 1) else false) then (x12.2.1 == 19) else false) then (x12.2.2 == 0) else false) then (x13.1 == 2) else false) then (x13.2 == 0) else false) then (x16.1 == (-1)) else false) then (x16.2 == 15) else false)
theorem C1d (fu : Nat) : Le (W14 fu ) (Dl ) := by
  unfold W14 Dl
  repeat (first | exact Le.rfl | exact N1e fu _ | exact C1h fu _ | exact O1e fu _ _ | exact Wp fu _ | exact U16 fu _ _ | exact V16 fu _ | exact R0 _ | refine Le.bind ?_ (fun _ => ?_) | refine Le.ite ?_ ?_)
end Go.Proofs.YtdkabnfphmmmnaaGreatDoor

