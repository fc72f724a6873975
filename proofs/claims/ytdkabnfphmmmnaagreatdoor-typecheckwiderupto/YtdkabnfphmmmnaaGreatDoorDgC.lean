/- A part of the proof of TypecheckWider. -/
import Derived.Test.YtdkabnfphmmmnaaGreatDoorDgB
import Derived.Test.YtdkabnfphmmmnaaGreatDoorAmB
set_option maxRecDepth 100000
set_option maxHeartbeats 4000000
set_option synthInstance.maxSize 2000
set_option linter.unusedVariables false
namespace Go.Proofs.YtdkabnfphmmmnaaGreatDoor
open Go.Am
def Fm (fu : Nat) (s : Str) : Option C0 :=
  some (C0.mk 3 0 s [])
theorem G1e (fu : Nat) (s : Str) : Le (Fm fu s) (Qk s) := by
  unfold Fm Qk
  repeat (first | exact Le.rfl | exact R0 _ | refine Le.bind ?_ (fun _ => ?_) | refine Le.ite ?_ ?_)
def Un (fu : Nat) (n : Int) : Option C0 :=
  some (C0.mk 0 n [] [])
theorem W1g (fu : Nat) (n : Int) : Le (Un fu n) (Pm n) := by
  unfold Un Pm
  repeat (first | exact Le.rfl | exact R0 _ | refine Le.bind ?_ (fun _ => ?_) | refine Le.ite ?_ ?_)
def Pp (fu : Nat) (o : Int) (kids : List C0) : Option C0 :=
  some (C0.mk o 0 [] kids)
theorem H1e (fu : Nat) (o : Int) (kids : List C0) : Le (Pp fu o kids) (Nb o kids) := by
  unfold Pp Nb
  repeat (first | exact Le.rfl | exact R0 _ | refine Le.bind ?_ (fun _ => ?_) | refine Le.ite ?_ ?_)
def Mq (fu : Nat) (k : Int) : Option (Bool × Bool) :=
  some ((bif (decide (k ≥ 0)) then (decide (k ≤ 6)) else false), (bif (k == 5) then true else (k == 6)))
theorem Zg (fu : Nat) (k : Int) : Le (Mq fu k) (Jh k) := by
  unfold Mq Jh
  repeat (first | exact Le.rfl | exact R0 _ | refine Le.bind ?_ (fun _ => ?_) | refine Le.ite ?_ ?_)
def A1 (fu : Nat) (ok : Bool) (syntaxReport : B0) : Option B0 :=
  some (B0.mk syntaxReport.nodes syntaxReport.depth (bif syntaxReport.badForm then true else (!ok)) syntaxReport.badName syntaxReport.badNumber)
theorem I1 (fu : Nat) (ok : Bool) (syntaxReport : B0) : Le (A1 fu ok syntaxReport) (U0 ok syntaxReport) := by
  unfold A1 U0
  repeat (first | exact Le.rfl | exact R0 _ | refine Le.bind ?_ (fun _ => ?_) | refine Le.ite ?_ ?_)
def Q7 : Nat → (List Str) → (List Str) → Int → Option Bool
  | 0, _, _, _ => none
  | fu + 1, s1, s2, v13 =>
    if (decide (v13 < ((s1).length : Int))) = true then
      idx s1 v13 >>= fun x1 =>
      idx s2 v13 >>= fun x2 =>
      if (!(x1 == x2)) = true then
        some false
      else
        Q7 fu s1 s2 (IntKind.i64.wrap (v13 + 1))
    else
      some true
theorem Cr (fu : Nat) : (∀ (s1 : List Str) (s2 : List Str) (v13 : Int), Le (Q7 fu s1 s2 v13) (P1 s1 s2 v13)) := by
  induction fu with
  | zero => exact fun _ _ _ => Le.none
  | succ fu ih =>
    have ih0 := ih
    refine fun s1 s2 v13 => ?_
    · rw [Q7, P1]
      repeat (first | exact Le.rfl | exact ih0 _ _ _ | exact R0 _ | refine Le.bind ?_ (fun _ => ?_) | refine Le.ite ?_ ?_)
theorem Wr (fu : Nat) (s1 : List Str) (s2 : List Str) (v13 : Int) : Le (Q7 fu s1 s2 v13) (P1 s1 s2 v13) := (Cr fu) s1 s2 v13
def Qb (fu : Nat) (s1 : List Str) (s2 : List Str) : Option Bool :=
  if (((s1).length : Int) != ((s2).length : Int)) = true then
    some false
  else
    Q7 fu s1 s2 0
theorem G6 (fu : Nat) (s1 : List Str) (s2 : List Str) : Le (Qb fu s1 s2) (G3 s1 s2) := by
  unfold Qb G3
  repeat (first | exact Le.rfl | exact Wr fu _ _ _ | exact R0 _ | refine Le.bind ?_ (fun _ => ?_) | refine Le.ite ?_ ?_)
mutual
def Ah : Nat → A0 → A0 → Option Bool
  | 0, _, _ => none
  | fu + 1, a, b =>
    (if (bif (bif (bif (bif (a.Kind == b.Kind) then (a.Low == b.Low) else false) then (a.High == b.High) else false) then (a.Size == b.Size) else false) then (a.Name == b.Name) else false) = true then Qb fu a.Names b.Names else some default) >>= fun x1 =>
    (if (bif (bif (bif (bif (bif (a.Kind == b.Kind) then (a.Low == b.Low) else false) then (a.High == b.High) else false) then (a.Size == b.Size) else false) then (a.Name == b.Name) else false) then x1 else false) = true then S3 fu a.Of b.Of else some default) >>= fun x2 =>
    some (bif (bif (bif (bif (bif (bif (a.Kind == b.Kind) then (a.Low == b.Low) else false) then (a.High == b.High) else false) then (a.Size == b.Size) else false) then (a.Name == b.Name) else false) then x1 else false) then x2 else false)
def S3 : Nat → (List A0) → (List A0) → Option Bool
  | 0, _, _ => none
  | fu + 1, s1, s2 =>
    if (((s1).length : Int) != ((s2).length : Int)) = true then
      some false
    else
      I2 fu s1 s2 0
def I2 : Nat → (List A0) → (List A0) → Int → Option Bool
  | 0, _, _, _ => none
  | fu + 1, s1, s2, v17 =>
    if (decide (v17 < ((s1).length : Int))) = true then
      idx s1 v17 >>= fun x1 =>
      idx s2 v17 >>= fun x2 =>
      Ah fu x1 x2 >>= fun x3 =>
      if (!x3) = true then
        some false
      else
        I2 fu s1 s2 (IntKind.i64.wrap (v17 + 1))
    else
      some true
end
theorem Cn (fu : Nat) : (∀ (a : A0) (b : A0), Le (Ah fu a b) (C7 a b)) ∧ (∀ (s1 : List A0) (s2 : List A0), Le (S3 fu s1 s2) (J1 s1 s2)) ∧ (∀ (s1 : List A0) (s2 : List A0) (v17 : Int), Le (I2 fu s1 s2 v17) (Y0 s1 s2 v17)) := by
  induction fu with
  | zero => exact ⟨fun _ _ => Le.none, fun _ _ => Le.none, fun _ _ _ => Le.none⟩
  | succ fu ih =>
    obtain ⟨ih0, ih1, ih2⟩ := ih
    refine ⟨fun a b => ?_, fun s1 s2 => ?_, fun s1 s2 v17 => ?_⟩
    · rw [Ah, C7]
      repeat (first | exact Le.rfl | exact ih0 _ _ | exact ih1 _ _ | exact ih2 _ _ _ | exact G6 fu _ _ | exact R0 _ | refine Le.bind ?_ (fun _ => ?_) | refine Le.ite ?_ ?_)
    · rw [S3, J1]
      repeat (first | exact Le.rfl | exact ih0 _ _ | exact ih1 _ _ | exact ih2 _ _ _ | exact G6 fu _ _ | exact R0 _ | refine Le.bind ?_ (fun _ => ?_) | refine Le.ite ?_ ?_)
    · rw [I2, Y0]
      repeat (first | exact Le.rfl | exact ih0 _ _ | exact ih1 _ _ | exact ih2 _ _ _ | exact G6 fu _ _ | exact R0 _ | refine Le.bind ?_ (fun _ => ?_) | refine Le.ite ?_ ?_)
theorem Xf (fu : Nat) (a : A0) (b : A0) : Le (Ah fu a b) (C7 a b) := (Cn fu).1 a b
theorem Lw (fu : Nat) (s1 : List A0) (s2 : List A0) : Le (S3 fu s1 s2) (J1 s1 s2) := (Cn fu).2.1 s1 s2
theorem Ru (fu : Nat) (s1 : List A0) (s2 : List A0) (v17 : Int) : Le (I2 fu s1 s2 v17) (Y0 s1 s2 v17) := (Cn fu).2.2 s1 s2 v17
def Me (fu : Nat) (d : Int) (syntaxReport : B0) : Option B0 :=
  some (B0.mk syntaxReport.nodes (max syntaxReport.depth d) syntaxReport.badForm syntaxReport.badName syntaxReport.badNumber)
theorem C2 (fu : Nat) (d : Int) (syntaxReport : B0) : Le (Me fu d syntaxReport) (B8 d syntaxReport) := by
  unfold Me B8
  repeat (first | exact Le.rfl | exact R0 _ | refine Le.bind ?_ (fun _ => ?_) | refine Le.ite ?_ ?_)
def D5 (fu : Nat) (n : Int) (low : Int) (high : Int) : Option Bool :=
  some (bif (decide (n ≥ low)) then (decide (n ≤ high)) else false)
theorem X2 (fu : Nat) (n : Int) (low : Int) (high : Int) : Le (D5 fu n low high) (H4 n low high) := by
  unfold D5 H4
  repeat (first | exact Le.rfl | exact R0 _ | refine Le.bind ?_ (fun _ => ?_) | refine Le.ite ?_ ?_)
def J3 (fu : Nat) (ok : Bool) (syntaxReport : B0) : Option B0 :=
  some (B0.mk syntaxReport.nodes syntaxReport.depth syntaxReport.badForm syntaxReport.badName (bif syntaxReport.badNumber then true else (!ok)))
theorem O1 (fu : Nat) (ok : Bool) (syntaxReport : B0) : Le (J3 fu ok syntaxReport) (Z1 ok syntaxReport) := by
  unfold J3 Z1
  repeat (first | exact Le.rfl | exact R0 _ | refine Le.bind ?_ (fun _ => ?_) | refine Le.ite ?_ ?_)
def Xr (fu : Nat) (c : Int) : Option Bool :=
  some (bif (decide (c ≥ 97)) then (decide (c ≤ 122)) else false)
theorem T17 (fu : Nat) (c : Int) : Le (Xr fu c) (Qi c) := by
  unfold Xr Qi
  repeat (first | exact Le.rfl | exact R0 _ | refine Le.bind ?_ (fun _ => ?_) | refine Le.ite ?_ ?_)
def Tt (fu : Nat) (c : Int) : Option Bool :=
  some (bif (decide (c ≥ 48)) then (decide (c ≤ 57)) else false)
theorem D19 (fu : Nat) (c : Int) : Le (Tt fu c) (Fk c) := by
  unfold Tt Fk
  repeat (first | exact Le.rfl | exact R0 _ | refine Le.bind ?_ (fun _ => ?_) | refine Le.ite ?_ ?_)
def Vh : Nat → Str → Int → Option Bool
  | 0, _, _ => none
  | fu + 1, s, v6 =>
    if (decide (v6 < ((s).length : Int))) = true then
      idx s v6 >>= fun x1 =>
      Xr fu (x1.toNat : Int) >>= fun x2 =>
      (if ((!x2) && (!(v6 == 0))) = true then idx s v6 else some default) >>= fun x3 =>
      (if ((!x2) && (!(v6 == 0))) = true then Tt fu (x3.toNat : Int) else some default) >>= fun x4 =>
      if (bif (!x2) then (bif (v6 == 0) then true else (!x4)) else false) = true then
        some false
      else
        Vh fu s (IntKind.i64.wrap (v6 + 1))
    else
      some (!(s == []))
theorem B15 (fu : Nat) : (∀ (s : Str) (v6 : Int), Le (Vh fu s v6) (C8 s v6)) := by
  induction fu with
  | zero => exact fun _ _ => Le.none
  | succ fu ih =>
    have ih0 := ih
    refine fun s v6 => ?_
    · rw [Vh, C8]
      repeat (first | exact Le.rfl | exact ih0 _ _ | exact T17 fu _ | exact D19 fu _ | exact R0 _ | refine Le.bind ?_ (fun _ => ?_) | refine Le.ite ?_ ?_)
theorem J16 (fu : Nat) (s : Str) (v6 : Int) : Le (Vh fu s v6) (C8 s v6) := (B15 fu) s v6
def Vv (fu : Nat) (s : Str) : Option Bool :=
  Vh fu s 0
theorem D1b (fu : Nat) (s : Str) : Le (Vv fu s) (Yl s) := by
  unfold Vv Yl
  repeat (first | exact Le.rfl | exact J16 fu _ _ | exact R0 _ | refine Le.bind ?_ (fun _ => ?_) | refine Le.ite ?_ ?_)
def Yr (fu : Nat) (Ye : Str) : Option Bool :=
  (if (!(Ye == [])) = true then Zm Ye [32] else some default) >>= fun x1 =>
  if (!(bif (!(Ye == [])) then (!x1) else false) || (decide (1 + Ye.length ≤ maxLen))) = true then
    if (!(bif (!(Ye == [])) then (!x1) else false) || (decide (([32] ++ Ye).length + 1 ≤ maxLen))) = true then
      (if (bif (!(Ye == [])) then (!x1) else false) = true then Zm [32, 116, 121, 112, 101, 32, 115, 101, 99, 114, 101, 116, 32, 112, 117, 98, 108, 105, 99, 32, 114, 97, 110, 100, 111, 109, 32, 118, 97, 114, 32, 104, 97, 116, 99, 104, 32, 102, 117, 110, 99, 32, 114, 101, 116, 117, 114, 110, 32, 98, 101, 103, 105, 110, 32, 101, 110, 100, 32, 98, 111, 111, 108, 32, 105, 110, 116, 32, 97, 114, 114, 97, 121, 32, 111, 102, 32, 114, 101, 99, 111, 114, 100, 32, 116, 114, 117, 101, 32, 102, 97, 108, 115, 101, 32, 99, 97, 108, 108, 32, 114, 101, 108, 101, 97, 115, 101, 32, 111, 117, 116, 112, 117, 116, 32, 119, 97, 105, 116, 32, 105, 102, 32, 101, 108, 115, 101, 32, 119, 104, 105, 108, 101, 32, 108, 105, 109, 105, 116, 32, 102, 111, 114, 32, 116, 111, 32, 115, 101, 116, 116, 108, 101, 32, 109, 105, 110, 32, 109, 97, 120, 32] (([32] ++ Ye) ++ [32]) else some default) >>= fun x2 =>
      some (bif (bif (!(Ye == [])) then (!x1) else false) then x2 else false)
    else none
  else none
theorem U17 (fu : Nat) (Ye : Str) : Le (Yr fu Ye) (Hg Ye) := by
  unfold Yr Hg
  repeat (first | exact Le.rfl | exact R0 _ | refine Le.bind ?_ (fun _ => ?_) | refine Le.ite ?_ ?_)
def Wv (fu : Nat) (s : Str) : Option Bool :=
  (if (decide (((s).length : Int) ≤ 12)) = true then Vv fu s else some default) >>= fun x1 =>
  (if (bif (decide (((s).length : Int) ≤ 12)) then x1 else false) = true then Yr fu s else some default) >>= fun x2 =>
  some (bif (bif (decide (((s).length : Int) ≤ 12)) then x1 else false) then (!x2) else false)
theorem E1b (fu : Nat) (s : Str) : Le (Wv fu s) (Zl s) := by
  unfold Wv Zl
  repeat (first | exact Le.rfl | exact D1b fu _ | exact U17 fu _ | exact R0 _ | refine Le.bind ?_ (fun _ => ?_) | refine Le.ite ?_ ?_)
def Lo (fu : Nat) (s : Str) : Option Bool :=
  Wv fu s >>= fun x1 =>
  some x1
theorem Uz (fu : Nat) (s : Str) : Le (Lo fu s) (Mf s) := by
  unfold Lo Mf
  repeat (first | exact Le.rfl | exact E1b fu _ | exact R0 _ | refine Le.bind ?_ (fun _ => ?_) | refine Le.ite ?_ ?_)
def U9 (fu : Nat) (s : Str) (syntaxReport : B0) : Option B0 :=
  (if (!syntaxReport.badName) = true then Lo fu s else some default) >>= fun x1 =>
  some (B0.mk syntaxReport.nodes syntaxReport.depth syntaxReport.badForm (bif syntaxReport.badName then true else (!x1)) syntaxReport.badNumber)
theorem L1 (fu : Nat) (s : Str) (syntaxReport : B0) : Le (U9 fu s syntaxReport) (W4 s syntaxReport) := by
  unfold U9 W4
  repeat (first | exact Le.rfl | exact Uz fu _ | exact R0 _ | refine Le.bind ?_ (fun _ => ?_) | refine Le.ite ?_ ?_)
mutual
def Sc : Nat → A0 → Int → B0 → Option B0
  | 0, _, _, _ => none
  | fu + 1, t, depth, syntaxReport =>
    Me fu depth (B0.mk (IntKind.i64.wrap (syntaxReport.nodes + 1)) syntaxReport.depth syntaxReport.badForm syntaxReport.badName syntaxReport.badNumber) >>= fun x1 =>
    A1 fu (bif (decide (t.Kind ≥ 0)) then (decide (t.Kind ≤ 4)) else false) x1 >>= fun x2 =>
    A1 fu (bif (t.Kind == 1) then true else (bif (t.Low == 0) then (t.High == 0) else false)) x2 >>= fun x3 =>
    A1 fu (bif (t.Kind == 2) then true else (t.Size == 0)) x3 >>= fun x4 =>
    A1 fu (bif (t.Kind == 4) then true else (t.Name == [])) x4 >>= fun x5 =>
    A1 fu (bif (t.Kind == 3) then true else (((t.Names).length : Int) == 0)) x5 >>= fun x6 =>
    if (t.Kind == 2) = true then
      A1 fu (((t.Of).length : Int) == 1) x6 >>= fun x7 =>
      D5 fu t.Size 1 32 >>= fun x8 =>
      J3 fu x8 x7 >>= fun x9 =>
      Ia fu t depth x9
    else
      if (t.Kind == 3) = true then
        A1 fu (bif (decide (((t.Of).length : Int) ≥ 1)) then (((t.Of).length : Int) == ((t.Names).length : Int)) else false) x6 >>= fun x14 =>
        J3 fu (decide (((t.Of).length : Int) ≤ 32)) x14 >>= fun x15 =>
        Ia fu t depth x15
      else
        A1 fu (((t.Of).length : Int) == 0) x6 >>= fun x16 =>
        Ia fu t depth x16
def Ia : Nat → A0 → Int → B0 → Option B0
  | 0, _, _, _ => none
  | fu + 1, t, depth, o0 =>
    if (t.Kind == 1) = true then
      D5 fu t.Low (-1048576) 1048576 >>= fun x10 =>
      (if x10 = true then D5 fu t.High t.Low 1048576 else some default) >>= fun x11 =>
      J3 fu (bif x10 then x11 else false) o0 >>= fun x12 =>
      Ad fu t depth x12
    else
      Ad fu t depth o0
def Ad : Nat → A0 → Int → B0 → Option B0
  | 0, _, _, _ => none
  | fu + 1, t, depth, o01 =>
    if (t.Kind == 4) = true then
      U9 fu t.Name o01 >>= fun x13 =>
      Bd fu t depth x13
    else
      Bd fu t depth o01
def Bd : Nat → A0 → Int → B0 → Option B0
  | 0, _, _, _ => none
  | fu + 1, t, depth, o02 =>
    Cd fu t depth o02 0
def Cd : Nat → A0 → Int → B0 → Int → Option B0
  | 0, _, _, _, _ => none
  | fu + 1, t, depth, o03, v147 =>
    if (decide (v147 < ((t.Names).length : Int))) = true then
      idx t.Names v147 >>= fun x17 =>
      U9 fu x17 o03 >>= fun x18 =>
      Cd fu t depth x18 (IntKind.i64.wrap (v147 + 1))
    else
      Dd fu t depth o03 0
def Dd : Nat → A0 → Int → B0 → Int → Option B0
  | 0, _, _, _, _ => none
  | fu + 1, t, depth, o04, v158 =>
    if (decide (v158 < ((t.Of).length : Int))) = true then
      idx t.Of v158 >>= fun x19 =>
      Sc fu x19 (IntKind.i64.wrap (depth + 1)) o04 >>= fun x20 =>
      Dd fu t depth x20 (IntKind.i64.wrap (v158 + 1))
    else
      some o04
end
theorem Pa (fu : Nat) : (∀ (t : A0) (depth : Int) (syntaxReport : B0), Le (Sc fu t depth syntaxReport) (R4 t depth syntaxReport)) ∧ (∀ (t : A0) (depth : Int) (o0 : B0), Le (Ia fu t depth o0) (H5 t depth o0)) ∧ (∀ (t : A0) (depth : Int) (o01 : B0), Le (Ad fu t depth o01) (I5 t depth o01)) ∧ (∀ (t : A0) (depth : Int) (o02 : B0), Le (Bd fu t depth o02) (M6 t depth o02)) ∧ (∀ (t : A0) (depth : Int) (o03 : B0) (v147 : Int), Le (Cd fu t depth o03 v147) (B4 t depth o03 v147)) ∧ (∀ (t : A0) (depth : Int) (o04 : B0) (v158 : Int), Le (Dd fu t depth o04 v158) (O4 t depth o04 v158)) := by
  induction fu with
  | zero => exact ⟨fun _ _ _ => Le.none, fun _ _ _ => Le.none, fun _ _ _ => Le.none, fun _ _ _ => Le.none, fun _ _ _ _ => Le.none, fun _ _ _ _ => Le.none⟩
  | succ fu ih =>
    obtain ⟨ih0, ih1, ih2, ih3, ih4, ih5⟩ := ih
    refine ⟨fun t depth syntaxReport => ?_, fun t depth o0 => ?_, fun t depth o01 => ?_, fun t depth o02 => ?_, fun t depth o03 v147 => ?_, fun t depth o04 v158 => ?_⟩
    · rw [Sc, R4]
      repeat (first | exact Le.rfl | exact ih0 _ _ _ | exact ih1 _ _ _ | exact ih2 _ _ _ | exact ih3 _ _ _ | exact ih4 _ _ _ _ | exact ih5 _ _ _ _ | exact C2 fu _ _ | exact I1 fu _ _ | exact X2 fu _ _ _ | exact O1 fu _ _ | exact L1 fu _ _ | exact R0 _ | refine Le.bind ?_ (fun _ => ?_) | refine Le.ite ?_ ?_)
    · rw [Ia, H5]
      repeat (first | exact Le.rfl | exact ih0 _ _ _ | exact ih1 _ _ _ | exact ih2 _ _ _ | exact ih3 _ _ _ | exact ih4 _ _ _ _ | exact ih5 _ _ _ _ | exact C2 fu _ _ | exact I1 fu _ _ | exact X2 fu _ _ _ | exact O1 fu _ _ | exact L1 fu _ _ | exact R0 _ | refine Le.bind ?_ (fun _ => ?_) | refine Le.ite ?_ ?_)
    · rw [Ad, I5]
      repeat (first | exact Le.rfl | exact ih0 _ _ _ | exact ih1 _ _ _ | exact ih2 _ _ _ | exact ih3 _ _ _ | exact ih4 _ _ _ _ | exact ih5 _ _ _ _ | exact C2 fu _ _ | exact I1 fu _ _ | exact X2 fu _ _ _ | exact O1 fu _ _ | exact L1 fu _ _ | exact R0 _ | refine Le.bind ?_ (fun _ => ?_) | refine Le.ite ?_ ?_)
    · rw [Bd, M6]
      repeat (first | exact Le.rfl | exact ih0 _ _ _ | exact ih1 _ _ _ | exact ih2 _ _ _ | exact ih3 _ _ _ | exact ih4 _ _ _ _ | exact ih5 _ _ _ _ | exact C2 fu _ _ | exact I1 fu _ _ | exact X2 fu _ _ _ | exact O1 fu _ _ | exact L1 fu _ _ | exact R0 _ | refine Le.bind ?_ (fun _ => ?_) | refine Le.ite ?_ ?_)
    · rw [Cd, B4]
      repeat (first | exact Le.rfl | exact ih0 _ _ _ | exact ih1 _ _ _ | exact ih2 _ _ _ | exact ih3 _ _ _ | exact ih4 _ _ _ _ | exact ih5 _ _ _ _ | exact C2 fu _ _ | exact I1 fu _ _ | exact X2 fu _ _ _ | exact O1 fu _ _ | exact L1 fu _ _ | exact R0 _ | refine Le.bind ?_ (fun _ => ?_) | refine Le.ite ?_ ?_)
    · rw [Dd, O4]
      repeat (first | exact Le.rfl | exact ih0 _ _ _ | exact ih1 _ _ _ | exact ih2 _ _ _ | exact ih3 _ _ _ | exact ih4 _ _ _ _ | exact ih5 _ _ _ _ | exact C2 fu _ _ | exact I1 fu _ _ | exact X2 fu _ _ _ | exact O1 fu _ _ | exact L1 fu _ _ | exact R0 _ | refine Le.bind ?_ (fun _ => ?_) | refine Le.ite ?_ ?_)
theorem Rb (fu : Nat) (t : A0) (depth : Int) (syntaxReport : B0) : Le (Sc fu t depth syntaxReport) (R4 t depth syntaxReport) := (Pa fu).1 t depth syntaxReport
theorem N1i (fu : Nat) (t : A0) (depth : Int) (o0 : B0) : Le (Ia fu t depth o0) (H5 t depth o0) := (Pa fu).2.1 t depth o0
theorem O1i (fu : Nat) (t : A0) (depth : Int) (o01 : B0) : Le (Ad fu t depth o01) (I5 t depth o01) := (Pa fu).2.2.1 t depth o01
theorem P1i (fu : Nat) (t : A0) (depth : Int) (o02 : B0) : Le (Bd fu t depth o02) (M6 t depth o02) := (Pa fu).2.2.2.1 t depth o02
theorem Q1i (fu : Nat) (t : A0) (depth : Int) (o03 : B0) (v147 : Int) : Le (Cd fu t depth o03 v147) (B4 t depth o03 v147) := (Pa fu).2.2.2.2.1 t depth o03 v147
theorem R1i (fu : Nat) (t : A0) (depth : Int) (o04 : B0) (v158 : Int) : Le (Dd fu t depth o04 v158) (O4 t depth o04 v158) := (Pa fu).2.2.2.2.2 t depth o04 v158
mutual
def Bh : Nat → C0 → C0 → Option Bool
  | 0, _, _ => none
  | fu + 1, a, b =>
    (if (bif (bif (a.Op == b.Op) then (a.NV == b.NV) else false) then (a.Name == b.Name) else false) = true then T3 fu a.Kids b.Kids else some default) >>= fun x1 =>
    some (bif (bif (bif (a.Op == b.Op) then (a.NV == b.NV) else false) then (a.Name == b.Name) else false) then x1 else false)
def T3 : Nat → (List C0) → (List C0) → Option Bool
  | 0, _, _ => none
  | fu + 1, s1, s2 =>
    if (((s1).length : Int) != ((s2).length : Int)) = true then
      some false
    else
      J2 fu s1 s2 0
def J2 : Nat → (List C0) → (List C0) → Int → Option Bool
  | 0, _, _, _ => none
  | fu + 1, s1, s2, v17 =>
    if (decide (v17 < ((s1).length : Int))) = true then
      idx s1 v17 >>= fun x1 =>
      idx s2 v17 >>= fun x2 =>
      Bh fu x1 x2 >>= fun x3 =>
      if (!x3) = true then
        some false
      else
        J2 fu s1 s2 (IntKind.i64.wrap (v17 + 1))
    else
      some true
end
theorem Dn (fu : Nat) : (∀ (a : C0) (b : C0), Le (Bh fu a b) (B6 a b)) ∧ (∀ (s1 : List C0) (s2 : List C0), Le (T3 fu s1 s2) (K1 s1 s2)) ∧ (∀ (s1 : List C0) (s2 : List C0) (v17 : Int), Le (J2 fu s1 s2 v17) (Z0 s1 s2 v17)) := by
  induction fu with
  | zero => exact ⟨fun _ _ => Le.none, fun _ _ => Le.none, fun _ _ _ => Le.none⟩
  | succ fu ih =>
    obtain ⟨ih0, ih1, ih2⟩ := ih
    refine ⟨fun a b => ?_, fun s1 s2 => ?_, fun s1 s2 v17 => ?_⟩
    · rw [Bh, B6]
      repeat (first | exact Le.rfl | exact ih0 _ _ | exact ih1 _ _ | exact ih2 _ _ _ | exact R0 _ | refine Le.bind ?_ (fun _ => ?_) | refine Le.ite ?_ ?_)
    · rw [T3, K1]
      repeat (first | exact Le.rfl | exact ih0 _ _ | exact ih1 _ _ | exact ih2 _ _ _ | exact R0 _ | refine Le.bind ?_ (fun _ => ?_) | refine Le.ite ?_ ?_)
    · rw [J2, Z0]
      repeat (first | exact Le.rfl | exact ih0 _ _ | exact ih1 _ _ | exact ih2 _ _ _ | exact R0 _ | refine Le.bind ?_ (fun _ => ?_) | refine Le.ite ?_ ?_)
theorem C15 (fu : Nat) (a : C0) (b : C0) : Le (Bh fu a b) (B6 a b) := (Dn fu).1 a b
theorem Mw (fu : Nat) (s1 : List C0) (s2 : List C0) : Le (T3 fu s1 s2) (K1 s1 s2) := (Dn fu).2.1 s1 s2
theorem Su (fu : Nat) (s1 : List C0) (s2 : List C0) (v17 : Int) : Le (J2 fu s1 s2 v17) (Z0 s1 s2 v17) := (Dn fu).2.2 s1 s2 v17
def Wh (fu : Nat) (op : Int) (v9 : Bool) : Option Int :=
  if v9 = true then
    some 1
  else
    if (op == 5) = true then
      some 2
    else
      if (op == 23) = true then
        some 3
      else
        if (bif (decide (op ≥ 8)) then (decide (op ≤ 22)) else false) = true then
          some 2
        else
          some (-1)
theorem K16 (fu : Nat) (op : Int) (v9 : Bool) : Le (Wh fu op v9) (Jc op v9) := by
  unfold Wh Jc
  repeat (first | exact Le.rfl | exact R0 _ | refine Le.bind ?_ (fun _ => ?_) | refine Le.ite ?_ ?_)
def Ef (fu : Nat) (op : Int) (v4 : Bool) : Option Int :=
  if v4 = true then
    some 0
  else
    if (op == 4) = true then
      Wh fu op (op == 4)
    else
      if (op == 6) = true then
        Wh fu op (op == 6)
      else
        Wh fu op (op == 7)
theorem L16 (fu : Nat) (op : Int) (v4 : Bool) : Le (Ef fu op v4) (Ma op v4) := by
  unfold Ef Ma
  repeat (first | exact Le.rfl | exact K16 fu _ _ | exact R0 _ | refine Le.bind ?_ (fun _ => ?_) | refine Le.ite ?_ ?_)
def Xv (fu : Nat) (op : Int) : Option Int :=
  if (op == 0) = true then
    Ef fu op (op == 0)
  else
    if (op == 1) = true then
      Ef fu op (op == 1)
    else
      if (op == 2) = true then
        Ef fu op (op == 2)
      else
        Ef fu op (op == 3)
theorem Xk (fu : Nat) (op : Int) : Le (Xv fu op) (Yi op) := by
  unfold Xv Yi
  repeat (first | exact Le.rfl | exact L16 fu _ _ | exact R0 _ | refine Le.bind ?_ (fun _ => ?_) | refine Le.ite ?_ ?_)
def Xh : Nat → C0 → Option Bool
  | 0, _ => none
  | fu + 1, o0 =>
    if (bif (o0.Op == 4) then true else (o0.Op == 5)) = true then
      if (((o0.Kids).length : Int) == 0) = true then
        some false
      else
        idx o0.Kids 0 >>= fun x1 =>
        Xh fu x1
    else
      some (o0.Op == 3)
theorem D15 (fu : Nat) : (∀ (o0 : C0), Le (Xh fu o0) (Na o0)) := by
  induction fu with
  | zero => exact fun _ => Le.none
  | succ fu ih =>
    have ih0 := ih
    refine fun o0 => ?_
    · rw [Xh, Na]
      repeat (first | exact Le.rfl | exact ih0 _ | exact R0 _ | refine Le.bind ?_ (fun _ => ?_) | refine Le.ite ?_ ?_)
theorem M16 (fu : Nat) (o0 : C0) : Le (Xh fu o0) (Na o0) := (D15 fu) o0
def Cq (fu : Nat) (e : C0) : Option Bool :=
  Xh fu e
theorem F9 (fu : Nat) (e : C0) : Le (Cq fu e) (Vg e) := by
  unfold Cq Vg
  repeat (first | exact Le.rfl | exact M16 fu _ | exact R0 _ | refine Le.bind ?_ (fun _ => ?_) | refine Le.ite ?_ ?_)
mutual
def V9 : Nat → C0 → Int → B0 → Option B0
  | 0, _, _, _ => none
  | fu + 1, e, depth, syntaxReport =>
    Me fu depth (B0.mk (IntKind.i64.wrap (syntaxReport.nodes + 1)) syntaxReport.depth syntaxReport.badForm syntaxReport.badName syntaxReport.badNumber) >>= fun x1 =>
    Xv fu e.Op >>= fun x2 =>
    A1 fu (x2 == ((e.Kids).length : Int)) x1 >>= fun x3 =>
    A1 fu (bif (e.NV == 0) then true else (e.Op == 0)) x3 >>= fun x4 =>
    A1 fu (bif (e.Name == []) then true else (bif (e.Op == 3) then true else (e.Op == 4))) x4 >>= fun x5 =>
    if (bif (e.Op == 4) then true else (e.Op == 5)) = true then
      Cq fu e >>= fun x6 =>
      A1 fu x6 x5 >>= fun x7 =>
      Vb fu e depth x7
    else
      Vb fu e depth x5
def Vb : Nat → C0 → Int → B0 → Option B0
  | 0, _, _, _ => none
  | fu + 1, e, depth, o0 =>
    if (bif (e.Op == 3) then true else (e.Op == 4)) = true then
      U9 fu e.Name o0 >>= fun x8 =>
      Wb fu e depth x8
    else
      Wb fu e depth o0
def Wb : Nat → C0 → Int → B0 → Option B0
  | 0, _, _, _ => none
  | fu + 1, e, depth, o01 =>
    if (e.Op == 0) = true then
      D5 fu e.NV 0 1048576 >>= fun x9 =>
      J3 fu x9 o01 >>= fun x10 =>
      Xb fu e depth x10
    else
      Xb fu e depth o01
def Xb : Nat → C0 → Int → B0 → Option B0
  | 0, _, _, _ => none
  | fu + 1, e, depth, o02 =>
    Yb fu e depth o02 0
def Yb : Nat → C0 → Int → B0 → Int → Option B0
  | 0, _, _, _, _ => none
  | fu + 1, e, depth, o03, v82 =>
    if (decide (v82 < ((e.Kids).length : Int))) = true then
      idx e.Kids v82 >>= fun x11 =>
      V9 fu x11 (IntKind.i64.wrap (depth + 1)) o03 >>= fun x12 =>
      Yb fu e depth x12 (IntKind.i64.wrap (v82 + 1))
    else
      some o03
end
theorem Ed (fu : Nat) : (∀ (e : C0) (depth : Int) (syntaxReport : B0), Le (V9 fu e depth syntaxReport) (D3 e depth syntaxReport)) ∧ (∀ (e : C0) (depth : Int) (o0 : B0), Le (Vb fu e depth o0) (U5 e depth o0)) ∧ (∀ (e : C0) (depth : Int) (o01 : B0), Le (Wb fu e depth o01) (K7 e depth o01)) ∧ (∀ (e : C0) (depth : Int) (o02 : B0), Le (Xb fu e depth o02) (L7 e depth o02)) ∧ (∀ (e : C0) (depth : Int) (o03 : B0) (v82 : Int), Le (Yb fu e depth o03 v82) (P3 e depth o03 v82)) := by
  induction fu with
  | zero => exact ⟨fun _ _ _ => Le.none, fun _ _ _ => Le.none, fun _ _ _ => Le.none, fun _ _ _ => Le.none, fun _ _ _ _ => Le.none⟩
  | succ fu ih =>
    obtain ⟨ih0, ih1, ih2, ih3, ih4⟩ := ih
    refine ⟨fun e depth syntaxReport => ?_, fun e depth o0 => ?_, fun e depth o01 => ?_, fun e depth o02 => ?_, fun e depth o03 v82 => ?_⟩
    · rw [V9, D3]
      repeat (first | exact Le.rfl | exact ih0 _ _ _ | exact ih1 _ _ _ | exact ih2 _ _ _ | exact ih3 _ _ _ | exact ih4 _ _ _ _ | exact C2 fu _ _ | exact Xk fu _ | exact I1 fu _ _ | exact F9 fu _ | exact L1 fu _ _ | exact X2 fu _ _ _ | exact O1 fu _ _ | exact R0 _ | refine Le.bind ?_ (fun _ => ?_) | refine Le.ite ?_ ?_)
    · rw [Vb, U5]
      repeat (first | exact Le.rfl | exact ih0 _ _ _ | exact ih1 _ _ _ | exact ih2 _ _ _ | exact ih3 _ _ _ | exact ih4 _ _ _ _ | exact C2 fu _ _ | exact Xk fu _ | exact I1 fu _ _ | exact F9 fu _ | exact L1 fu _ _ | exact X2 fu _ _ _ | exact O1 fu _ _ | exact R0 _ | refine Le.bind ?_ (fun _ => ?_) | refine Le.ite ?_ ?_)
    · rw [Wb, K7]
      repeat (first | exact Le.rfl | exact ih0 _ _ _ | exact ih1 _ _ _ | exact ih2 _ _ _ | exact ih3 _ _ _ | exact ih4 _ _ _ _ | exact C2 fu _ _ | exact Xk fu _ | exact I1 fu _ _ | exact F9 fu _ | exact L1 fu _ _ | exact X2 fu _ _ _ | exact O1 fu _ _ | exact R0 _ | refine Le.bind ?_ (fun _ => ?_) | refine Le.ite ?_ ?_)
    · rw [Xb, L7]
      repeat (first | exact Le.rfl | exact ih0 _ _ _ | exact ih1 _ _ _ | exact ih2 _ _ _ | exact ih3 _ _ _ | exact ih4 _ _ _ _ | exact C2 fu _ _ | exact Xk fu _ | exact I1 fu _ _ | exact F9 fu _ | exact L1 fu _ _ | exact X2 fu _ _ _ | exact O1 fu _ _ | exact R0 _ | refine Le.bind ?_ (fun _ => ?_) | refine Le.ite ?_ ?_)
    · rw [Yb, P3]
      repeat (first | exact Le.rfl | exact ih0 _ _ _ | exact ih1 _ _ _ | exact ih2 _ _ _ | exact ih3 _ _ _ | exact ih4 _ _ _ _ | exact C2 fu _ _ | exact Xk fu _ | exact I1 fu _ _ | exact F9 fu _ | exact L1 fu _ _ | exact X2 fu _ _ _ | exact O1 fu _ _ | exact R0 _ | refine Le.bind ?_ (fun _ => ?_) | refine Le.ite ?_ ?_)
theorem Z8 (fu : Nat) (e : C0) (depth : Int) (syntaxReport : B0) : Le (V9 fu e depth syntaxReport) (D3 e depth syntaxReport) := (Ed fu).1 e depth syntaxReport
theorem X1g (fu : Nat) (e : C0) (depth : Int) (o0 : B0) : Le (Vb fu e depth o0) (U5 e depth o0) := (Ed fu).2.1 e depth o0
theorem Y1g (fu : Nat) (e : C0) (depth : Int) (o01 : B0) : Le (Wb fu e depth o01) (K7 e depth o01) := (Ed fu).2.2.1 e depth o01
theorem Z1g (fu : Nat) (e : C0) (depth : Int) (o02 : B0) : Le (Xb fu e depth o02) (L7 e depth o02) := (Ed fu).2.2.2.1 e depth o02
theorem A1h (fu : Nat) (e : C0) (depth : Int) (o03 : B0) (v82 : Int) : Le (Yb fu e depth o03 v82) (P3 e depth o03 v82) := (Ed fu).2.2.2.2 e depth o03 v82
def Wa (fu : Nat) (e : C0) (used : Bool) (syntaxReport : B0) : Option B0 :=
  (if (!used) = true then Bh fu e (C0.mk 0 0 [] []) else some default) >>= fun x1 =>
  if (bif (!used) then x1 else false) = true then
    some syntaxReport
  else
    A1 fu used syntaxReport >>= fun x2 =>
    V9 fu e 1 x2 >>= fun x3 =>
    some x3
theorem O3 (fu : Nat) (e : C0) (used : Bool) (syntaxReport : B0) : Le (Wa fu e used syntaxReport) (Y3 e used syntaxReport) := by
  unfold Wa Y3
  repeat (first | exact Le.rfl | exact C15 fu _ _ | exact I1 fu _ _ | exact Z8 fu _ _ _ | exact R0 _ | refine Le.bind ?_ (fun _ => ?_) | refine Le.ite ?_ ?_)
def Qp (fu : Nat) (v : Int) : Option (S0 × Bool) :=
  if (v == 0) = true then
    some ((S0.mk true true false false false false false false false), true)
  else
    if (v == 1) = true then
      some ((S0.mk true false true true false false false false false), true)
    else
      if (v == 2) = true then
        some ((S0.mk true false true false false false false false false), true)
      else
        if (v == 3) = true then
          some ((S0.mk false true false false false false false false false), true)
        else
          if (v == 4) = true then
            some ((S0.mk false false false false true false false false false), true)
          else
            if (v == 5) = true then
              some ((S0.mk false true false false false false false true true), true)
            else
              if (v == 6) = true then
                some ((S0.mk false true false false true false false true false), true)
              else
                if (v == 7) = true then
                  some ((S0.mk false false true false false true false true false), true)
                else
                  if (v == 8) = true then
                    some ((S0.mk false false false false false false true false false), true)
                  else
                    some ((S0.mk false false false false false false false false false), false)
theorem Yf (fu : Nat) (v : Int) : Le (Qp fu v) (Kd v) := by
  unfold Qp Kd
  repeat (first | exact Le.rfl | exact R0 _ | refine Le.bind ?_ (fun _ => ?_) | refine Le.ite ?_ ?_)
def Y9 : Nat → F0 → B0 → Int → Int → Option B0
  | 0, _, _, _, _ => none
  | fu + 1, s, o0, last, v58 =>
    if (decide (v58 < ((s.Numbers).length : Int))) = true then
      idx s.Numbers v58 >>= fun x10 =>
      D5 fu x10 0 1048576 >>= fun x11 =>
      J3 fu (bif x11 then (decide (x10 > last)) else false) o0 >>= fun x12 =>
      Y9 fu s x12 x10 (IntKind.i64.wrap (v58 + 1))
    else
      some o0
theorem Yv (fu : Nat) : (∀ (s : F0) (o0 : B0) (last : Int) (v58 : Int), Le (Y9 fu s o0 last v58) (E3 s o0 last v58)) := by
  induction fu with
  | zero => exact fun _ _ _ _ => Le.none
  | succ fu ih =>
    have ih0 := ih
    refine fun s o0 last v58 => ?_
    · rw [Y9, E3]
      repeat (first | exact Le.rfl | exact ih0 _ _ _ _ | exact X2 fu _ _ _ | exact O1 fu _ _ | exact R0 _ | refine Le.bind ?_ (fun _ => ?_) | refine Le.ite ?_ ?_)
theorem Hx (fu : Nat) (s : F0) (o0 : B0) (last : Int) (v58 : Int) : Le (Y9 fu s o0 last v58) (E3 s o0 last v58) := (Yv fu) s o0 last v58
def Ak (fu : Nat) (s : F0) (syntaxReport : B0) : Option B0 :=
  if (s.Verb == 4) = true then
    D5 fu s.NV 0 1048576 >>= fun x1 =>
    J3 fu x1 syntaxReport >>= fun x2 =>
    some x2
  else
    if (s.Verb == 6) = true then
      D5 fu s.NV 0 4096 >>= fun x3 =>
      J3 fu x3 syntaxReport >>= fun x4 =>
      some x4
    else
      if (s.Verb == 7) = true then
        D5 fu s.Low (-1048576) 1048576 >>= fun x5 =>
        (if x5 = true then D5 fu s.High s.Low 1048576 else some default) >>= fun x6 =>
        J3 fu (bif (bif x5 then x6 else false) then (decide ((IntKind.i64.wrap (s.High - s.Low)) < 4096)) else false) syntaxReport >>= fun x7 =>
        some x7
      else
        if (s.Verb == 8) = true then
          D5 fu ((s.Numbers).length : Int) 1 32 >>= fun x8 =>
          J3 fu x8 syntaxReport >>= fun x9 =>
          Y9 fu s x9 (-1) 0
        else
          some syntaxReport
theorem Xa (fu : Nat) (s : F0) (syntaxReport : B0) : Le (Ak fu s syntaxReport) (M7 s syntaxReport) := by
  unfold Ak M7
  repeat (first | exact Le.rfl | exact X2 fu _ _ _ | exact O1 fu _ _ | exact Hx fu _ _ _ _ | exact R0 _ | refine Le.bind ?_ (fun _ => ?_) | refine Le.ite ?_ ?_)
mutual
def A9 : Nat → (List F0) → Int → B0 → Option B0
  | 0, _, _, _ => none
  | fu + 1, l, nesting, syntaxReport =>
    Ya fu l nesting syntaxReport 0
def Ya : Nat → (List F0) → Int → B0 → Int → Option B0
  | 0, _, _, _, _ => none
  | fu + 1, l, nesting, o03, v14 =>
    if (decide (v14 < ((l).length : Int))) = true then
      idx l v14 >>= fun x1 =>
      Me fu nesting (B0.mk (IntKind.i64.wrap (o03.nodes + 1)) o03.depth o03.badForm o03.badName o03.badNumber) >>= fun x2 =>
      Qp fu x1.Verb >>= fun x3 =>
      A1 fu x3.2 x2 >>= fun x4 =>
      Wa fu x1.Place x3.1.place x4 >>= fun x5 =>
      if x3.1.place = true then
        Cq fu x1.Place >>= fun x6 =>
        A1 fu x6 x5 >>= fun x7 =>
        Za fu l nesting x7 x1 x3 v14
      else
        Za fu l nesting x5 x1 x3 v14
    else
      some o03
def Za : Nat → (List F0) → Int → B0 → F0 → (S0 × Bool) → Int → Option B0
  | 0, _, _, _, _, _, _ => none
  | fu + 1, l, nesting, o0, x1, x3, v141 =>
    Wa fu x1.Value x3.1.value o0 >>= fun x8 =>
    A1 fu (bif x3.1.name then true else (x1.Name == [])) x8 >>= fun x9 =>
    if x3.1.name = true then
      U9 fu x1.Name x9 >>= fun x10 =>
      Ab fu l nesting x10 x1 x3 v141
    else
      Ab fu l nesting x9 x1 x3 v141
def Ab : Nat → (List F0) → Int → B0 → F0 → (S0 × Bool) → Int → Option B0
  | 0, _, _, _, _, _, _ => none
  | fu + 1, l, nesting, o01, x1, x3, v142 =>
    A1 fu (bif x3.1.args then true else (((x1.Args).length : Int) == 0)) o01 >>= fun x11 =>
    Bb fu l nesting x11 x1 x3 v142 0
def Bb : Nat → (List F0) → Int → B0 → F0 → (S0 × Bool) → Int → Int → Option B0
  | 0, _, _, _, _, _, _, _ => none
  | fu + 1, l, nesting, o02, x1, x3, v143, v84 =>
    if (decide (v84 < ((x1.Args).length : Int))) = true then
      idx x1.Args v84 >>= fun x12 =>
      V9 fu x12 1 o02 >>= fun x13 =>
      Bb fu l nesting x13 x1 x3 v143 (IntKind.i64.wrap (v84 + 1))
    else
      A1 fu (bif x3.1.n then true else (x1.NV == 0)) o02 >>= fun x14 =>
      A1 fu (bif x3.1.bounds then true else (bif (x1.Low == 0) then (x1.High == 0) else false)) x14 >>= fun x15 =>
      A1 fu (bif x3.1.numbers then true else (((x1.Numbers).length : Int) == 0)) x15 >>= fun x16 =>
      A1 fu (bif x3.1.thenV then true else (((x1.Then).length : Int) == 0)) x16 >>= fun x17 =>
      A1 fu (bif x3.1.other then true else (((x1.Else).length : Int) == 0)) x17 >>= fun x18 =>
      Ak fu x1 x18 >>= fun x19 =>
      A9 fu x1.Then (IntKind.i64.wrap (nesting + 1)) x19 >>= fun x20 =>
      A9 fu x1.Else (IntKind.i64.wrap (nesting + 1)) x20 >>= fun x21 =>
      Ya fu l nesting x21 (IntKind.i64.wrap (v143 + 1))
end
theorem Zb (fu : Nat) : (∀ (l : List F0) (nesting : Int) (syntaxReport : B0), Le (A9 fu l nesting syntaxReport) (K3 l nesting syntaxReport)) ∧ (∀ (l : List F0) (nesting : Int) (o03 : B0) (v14 : Int), Le (Ya fu l nesting o03 v14) (Z3 l nesting o03 v14)) ∧ (∀ (l : List F0) (nesting : Int) (o0 : B0) (x1 : F0) (x3 : S0 × Bool) (v141 : Int), Le (Za fu l nesting o0 x1 x3 v141) (J4 l nesting o0 x1 x3 v141)) ∧ (∀ (l : List F0) (nesting : Int) (o01 : B0) (x1 : F0) (x3 : S0 × Bool) (v142 : Int), Le (Ab fu l nesting o01 x1 x3 v142) (K4 l nesting o01 x1 x3 v142)) ∧ (∀ (l : List F0) (nesting : Int) (o02 : B0) (x1 : F0) (x3 : S0 × Bool) (v143 : Int) (v84 : Int), Le (Bb fu l nesting o02 x1 x3 v143 v84) (J5 l nesting o02 x1 x3 v143 v84)) := by
  induction fu with
  | zero => exact ⟨fun _ _ _ => Le.none, fun _ _ _ _ => Le.none, fun _ _ _ _ _ _ => Le.none, fun _ _ _ _ _ _ => Le.none, fun _ _ _ _ _ _ _ => Le.none⟩
  | succ fu ih =>
    obtain ⟨ih0, ih1, ih2, ih3, ih4⟩ := ih
    refine ⟨fun l nesting syntaxReport => ?_, fun l nesting o03 v14 => ?_, fun l nesting o0 x1 x3 v141 => ?_, fun l nesting o01 x1 x3 v142 => ?_, fun l nesting o02 x1 x3 v143 v84 => ?_⟩
    · rw [A9, K3]
      repeat (first | exact Le.rfl | exact ih0 _ _ _ | exact ih1 _ _ _ _ | exact ih2 _ _ _ _ _ _ | exact ih3 _ _ _ _ _ _ | exact ih4 _ _ _ _ _ _ _ | exact C2 fu _ _ | exact Yf fu _ | exact I1 fu _ _ | exact O3 fu _ _ _ | exact F9 fu _ | exact L1 fu _ _ | exact Z8 fu _ _ _ | exact Xa fu _ _ | exact R0 _ | refine Le.bind ?_ (fun _ => ?_) | refine Le.ite ?_ ?_)
    · rw [Ya, Z3]
      repeat (first | exact Le.rfl | exact ih0 _ _ _ | exact ih1 _ _ _ _ | exact ih2 _ _ _ _ _ _ | exact ih3 _ _ _ _ _ _ | exact ih4 _ _ _ _ _ _ _ | exact C2 fu _ _ | exact Yf fu _ | exact I1 fu _ _ | exact O3 fu _ _ _ | exact F9 fu _ | exact L1 fu _ _ | exact Z8 fu _ _ _ | exact Xa fu _ _ | exact R0 _ | refine Le.bind ?_ (fun _ => ?_) | refine Le.ite ?_ ?_)
    · rw [Za, J4]
      repeat (first | exact Le.rfl | exact ih0 _ _ _ | exact ih1 _ _ _ _ | exact ih2 _ _ _ _ _ _ | exact ih3 _ _ _ _ _ _ | exact ih4 _ _ _ _ _ _ _ | exact C2 fu _ _ | exact Yf fu _ | exact I1 fu _ _ | exact O3 fu _ _ _ | exact F9 fu _ | exact L1 fu _ _ | exact Z8 fu _ _ _ | exact Xa fu _ _ | exact R0 _ | refine Le.bind ?_ (fun _ => ?_) | refine Le.ite ?_ ?_)
    · rw [Ab, K4]
      repeat (first | exact Le.rfl | exact ih0 _ _ _ | exact ih1 _ _ _ _ | exact ih2 _ _ _ _ _ _ | exact ih3 _ _ _ _ _ _ | exact ih4 _ _ _ _ _ _ _ | exact C2 fu _ _ | exact Yf fu _ | exact I1 fu _ _ | exact O3 fu _ _ _ | exact F9 fu _ | exact L1 fu _ _ | exact Z8 fu _ _ _ | exact Xa fu _ _ | exact R0 _ | refine Le.bind ?_ (fun _ => ?_) | refine Le.ite ?_ ?_)
    · rw [Bb, J5]
      repeat (first | exact Le.rfl | exact ih0 _ _ _ | exact ih1 _ _ _ _ | exact ih2 _ _ _ _ _ _ | exact ih3 _ _ _ _ _ _ | exact ih4 _ _ _ _ _ _ _ | exact C2 fu _ _ | exact Yf fu _ | exact I1 fu _ _ | exact O3 fu _ _ _ | exact F9 fu _ | exact L1 fu _ _ | exact Z8 fu _ _ _ | exact Xa fu _ _ | exact R0 _ | refine Le.bind ?_ (fun _ => ?_) | refine Le.ite ?_ ?_)
theorem Ja (fu : Nat) (l : List F0) (nesting : Int) (syntaxReport : B0) : Le (A9 fu l nesting syntaxReport) (K3 l nesting syntaxReport) := (Zb fu).1 l nesting syntaxReport
theorem X1e (fu : Nat) (l : List F0) (nesting : Int) (o03 : B0) (v14 : Int) : Le (Ya fu l nesting o03 v14) (Z3 l nesting o03 v14) := (Zb fu).2.1 l nesting o03 v14
theorem Y1e (fu : Nat) (l : List F0) (nesting : Int) (o0 : B0) (x1 : F0) (x3 : S0 × Bool) (v141 : Int) : Le (Za fu l nesting o0 x1 x3 v141) (J4 l nesting o0 x1 x3 v141) := (Zb fu).2.2.1 l nesting o0 x1 x3 v141
theorem Z1e (fu : Nat) (l : List F0) (nesting : Int) (o01 : B0) (x1 : F0) (x3 : S0 × Bool) (v142 : Int) : Le (Ab fu l nesting o01 x1 x3 v142) (K4 l nesting o01 x1 x3 v142) := (Zb fu).2.2.2.1 l nesting o01 x1 x3 v142
theorem A1f (fu : Nat) (l : List F0) (nesting : Int) (o02 : B0) (x1 : F0) (x3 : S0 × Bool) (v143 : Int) (v84 : Int) : Le (Bb fu l nesting o02 x1 x3 v143 v84) (J5 l nesting o02 x1 x3 v143 v84) := (Zb fu).2.2.2.2 l nesting o02 x1 x3 v143 v84
mutual
def Qa : Nat → (List E0) → B0 → Option B0
  | 0, _, _ => none
  | fu + 1, l, syntaxReport =>
    Cb fu l syntaxReport 0
def Cb : Nat → (List E0) → B0 → Int → Option B0
  | 0, _, _, _ => none
  | fu + 1, l, o03, v15 =>
    if (decide (v15 < ((l).length : Int))) = true then
      idx l v15 >>= fun x1 =>
      Mq fu x1.Kind >>= fun x2 =>
      A1 fu x2.1 (B0.mk (IntKind.i64.wrap (o03.nodes + 1)) o03.depth o03.badForm o03.badName o03.badNumber) >>= fun x3 =>
      (if (!x2.1) = true then Ah fu x1.TypeV (A0.mk 0 0 0 0 [] [] []) else some default) >>= fun x4 =>
      if (bif x2.1 then true else (!x4)) = true then
        Sc fu x1.TypeV 1 x3 >>= fun x5 =>
        Db fu l x5 x1 x2 v15
      else
        Db fu l x3 x1 x2 v15
    else
      some o03
def Db : Nat → (List E0) → B0 → E0 → (Bool × Bool) → Int → Option B0
  | 0, _, _, _, _, _ => none
  | fu + 1, l, o0, x1, x2, v151 =>
    U9 fu x1.Name o0 >>= fun x6 =>
    Wa fu x1.Value x2.2 x6 >>= fun x7 =>
    A1 fu (bif (x1.Kind == 4) then true else (x1.Init == 0)) x7 >>= fun x8 =>
    D5 fu x1.Init (-1048576) 1048576 >>= fun x9 =>
    (if (x9 && (!(x1.TypeV.Kind != 0))) = true then D5 fu x1.Init 0 1 else some default) >>= fun x10 =>
    J3 fu (bif x9 then (bif (x1.TypeV.Kind != 0) then true else x10) else false) x8 >>= fun x11 =>
    A1 fu (bif (x1.Kind == 6) then true else (bif (bif (((x1.Params).length : Int) == 0) then (((x1.Vars).length : Int) == 0) else false) then (((x1.Body).length : Int) == 0) else false)) x11 >>= fun x12 =>
    Eb fu l x12 x1 v151 0
def Eb : Nat → (List E0) → B0 → E0 → Int → Int → Option B0
  | 0, _, _, _, _, _ => none
  | fu + 1, l, o01, x1, v152, v109 =>
    if (decide (v109 < ((x1.Params).length : Int))) = true then
      idx x1.Params v109 >>= fun x13 =>
      A1 fu (bif (x13.Kind == 4) then (x13.Init == 0) else false) o01 >>= fun x14 =>
      Eb fu l x14 x1 v152 (IntKind.i64.wrap (v109 + 1))
    else
      Fb fu l o01 x1 v152 0
def Fb : Nat → (List E0) → B0 → E0 → Int → Int → Option B0
  | 0, _, _, _, _, _ => none
  | fu + 1, l, o02, x1, v153, v127 =>
    if (decide (v127 < ((x1.Vars).length : Int))) = true then
      idx x1.Vars v127 >>= fun x15 =>
      A1 fu (x15.Kind == 4) o02 >>= fun x16 =>
      Fb fu l x16 x1 v153 (IntKind.i64.wrap (v127 + 1))
    else
      Qa fu x1.Params o02 >>= fun x17 =>
      Qa fu x1.Vars x17 >>= fun x18 =>
      A9 fu x1.Body 1 x18 >>= fun x19 =>
      Cb fu l x19 (IntKind.i64.wrap (v153 + 1))
end
theorem Ac (fu : Nat) : (∀ (l : List E0) (syntaxReport : B0), Le (Qa fu l syntaxReport) (B5 l syntaxReport)) ∧ (∀ (l : List E0) (o03 : B0) (v15 : Int), Le (Cb fu l o03 v15) (L4 l o03 v15)) ∧ (∀ (l : List E0) (o0 : B0) (x1 : E0) (x2 : Bool × Bool) (v151 : Int), Le (Db fu l o0 x1 x2 v151) (K5 l o0 x1 x2 v151)) ∧ (∀ (l : List E0) (o01 : B0) (x1 : E0) (v152 : Int) (v109 : Int), Le (Eb fu l o01 x1 v152 v109) (M4 l o01 x1 v152 v109)) ∧ (∀ (l : List E0) (o02 : B0) (x1 : E0) (v153 : Int) (v127 : Int), Le (Fb fu l o02 x1 v153 v127) (L5 l o02 x1 v153 v127)) := by
  induction fu with
  | zero => exact ⟨fun _ _ => Le.none, fun _ _ _ => Le.none, fun _ _ _ _ _ => Le.none, fun _ _ _ _ _ => Le.none, fun _ _ _ _ _ => Le.none⟩
  | succ fu ih =>
    obtain ⟨ih0, ih1, ih2, ih3, ih4⟩ := ih
    refine ⟨fun l syntaxReport => ?_, fun l o03 v15 => ?_, fun l o0 x1 x2 v151 => ?_, fun l o01 x1 v152 v109 => ?_, fun l o02 x1 v153 v127 => ?_⟩
    · rw [Qa, B5]
      repeat (first | exact Le.rfl | exact ih0 _ _ | exact ih1 _ _ _ | exact ih2 _ _ _ _ _ | exact ih3 _ _ _ _ _ | exact ih4 _ _ _ _ _ | exact Zg fu _ | exact I1 fu _ _ | exact Xf fu _ _ | exact Rb fu _ _ _ | exact L1 fu _ _ | exact O3 fu _ _ _ | exact X2 fu _ _ _ | exact O1 fu _ _ | exact Ja fu _ _ _ | exact R0 _ | refine Le.bind ?_ (fun _ => ?_) | refine Le.ite ?_ ?_)
    · rw [Cb, L4]
      repeat (first | exact Le.rfl | exact ih0 _ _ | exact ih1 _ _ _ | exact ih2 _ _ _ _ _ | exact ih3 _ _ _ _ _ | exact ih4 _ _ _ _ _ | exact Zg fu _ | exact I1 fu _ _ | exact Xf fu _ _ | exact Rb fu _ _ _ | exact L1 fu _ _ | exact O3 fu _ _ _ | exact X2 fu _ _ _ | exact O1 fu _ _ | exact Ja fu _ _ _ | exact R0 _ | refine Le.bind ?_ (fun _ => ?_) | refine Le.ite ?_ ?_)
    · rw [Db, K5]
      repeat (first | exact Le.rfl | exact ih0 _ _ | exact ih1 _ _ _ | exact ih2 _ _ _ _ _ | exact ih3 _ _ _ _ _ | exact ih4 _ _ _ _ _ | exact Zg fu _ | exact I1 fu _ _ | exact Xf fu _ _ | exact Rb fu _ _ _ | exact L1 fu _ _ | exact O3 fu _ _ _ | exact X2 fu _ _ _ | exact O1 fu _ _ | exact Ja fu _ _ _ | exact R0 _ | refine Le.bind ?_ (fun _ => ?_) | refine Le.ite ?_ ?_)
    · rw [Eb, M4]
      repeat (first | exact Le.rfl | exact ih0 _ _ | exact ih1 _ _ _ | exact ih2 _ _ _ _ _ | exact ih3 _ _ _ _ _ | exact ih4 _ _ _ _ _ | exact Zg fu _ | exact I1 fu _ _ | exact Xf fu _ _ | exact Rb fu _ _ _ | exact L1 fu _ _ | exact O3 fu _ _ _ | exact X2 fu _ _ _ | exact O1 fu _ _ | exact Ja fu _ _ _ | exact R0 _ | refine Le.bind ?_ (fun _ => ?_) | refine Le.ite ?_ ?_)
    · rw [Fb, L5]
      repeat (first | exact Le.rfl | exact ih0 _ _ | exact ih1 _ _ _ | exact ih2 _ _ _ _ _ | exact ih3 _ _ _ _ _ | exact ih4 _ _ _ _ _ | exact Zg fu _ | exact I1 fu _ _ | exact Xf fu _ _ | exact Rb fu _ _ _ | exact L1 fu _ _ | exact O3 fu _ _ _ | exact X2 fu _ _ _ | exact O1 fu _ _ | exact Ja fu _ _ _ | exact R0 _ | refine Le.bind ?_ (fun _ => ?_) | refine Le.ite ?_ ?_)
theorem K11 (fu : Nat) (l : List E0) (syntaxReport : B0) : Le (Qa fu l syntaxReport) (B5 l syntaxReport) := (Ac fu).1 l syntaxReport
theorem B1f (fu : Nat) (l : List E0) (o03 : B0) (v15 : Int) : Le (Cb fu l o03 v15) (L4 l o03 v15) := (Ac fu).2.1 l o03 v15
theorem C1f (fu : Nat) (l : List E0) (o0 : B0) (x1 : E0) (x2 : Bool × Bool) (v151 : Int) : Le (Db fu l o0 x1 x2 v151) (K5 l o0 x1 x2 v151) := (Ac fu).2.2.1 l o0 x1 x2 v151
theorem D1f (fu : Nat) (l : List E0) (o01 : B0) (x1 : E0) (v152 : Int) (v109 : Int) : Le (Eb fu l o01 x1 v152 v109) (M4 l o01 x1 v152 v109) := (Ac fu).2.2.2.1 l o01 x1 v152 v109
theorem E1f (fu : Nat) (l : List E0) (o02 : B0) (x1 : E0) (v153 : Int) (v127 : Int) : Le (Fb fu l o02 x1 v153 v127) (L5 l o02 x1 v153 v127) := (Ac fu).2.2.2.2 l o02 x1 v153 v127
def Zr (fu : Nat) (p : N0) : Option B0 :=
  Qa fu p.Decls (B0.mk 0 0 false false false) >>= fun x1 =>
  A9 fu p.Body 1 x1 >>= fun x2 =>
  some x2
theorem V17 (fu : Nat) (p : N0) : Le (Zr fu p) (Ig p) := by
  unfold Zr Ig
  repeat (first | exact Le.rfl | exact K11 fu _ _ | exact Ja fu _ _ _ | exact R0 _ | refine Le.bind ?_ (fun _ => ?_) | refine Le.ite ?_ ?_)
def Oe (fu : Nat) (syntaxReport : B0) : Option Int :=
  if (bif (decide (syntaxReport.nodes > 1024)) then true else (decide (syntaxReport.depth > 12))) = true then
    some 4
  else
    if syntaxReport.badForm = true then
      some 1
    else
      if syntaxReport.badName = true then
        some 7
      else
        if syntaxReport.badNumber = true then
          some 3
        else
          some 0
theorem Gm (fu : Nat) (syntaxReport : B0) : Le (Oe fu syntaxReport) (Q6 syntaxReport) := by
  unfold Oe Q6
  repeat (first | exact Le.rfl | exact R0 _ | refine Le.bind ?_ (fun _ => ?_) | refine Le.ite ?_ ?_)
def Zv (fu : Nat) (p : N0) : Option Int :=
  Zr fu p >>= fun x1 =>
  Oe fu x1 >>= fun x2 =>
  some x2
theorem F1b (fu : Nat) (p : N0) : Le (Zv fu p) (Zi p) := by
  unfold Zv Zi
  repeat (first | exact Le.rfl | exact V17 fu _ | exact Gm fu _ | exact R0 _ | refine Le.bind ?_ (fun _ => ?_) | refine Le.ite ?_ ?_)
mutual
def E7 : Nat → D0 → (List (Str × Bool)) → Int → Option Int
  | 0, _, _, _ => none
  | fu + 1, c, m0, v18 =>
    if (decide (v18 < ((c.p.Decls).length : Int))) = true then
      idx c.p.Decls v18 >>= fun x1 =>
      some (mgt x1.Name m0) >>= fun x2 =>
      if (x2.getD ebool.zero) = true then
        some v18
      else
        F7 fu c (mpt x1.Name true m0) [] v18 v18 x1 0
    else
      some (-1)
def F7 : Nat → D0 → (List (Str × Bool)) → (List (Str × Bool)) → Int → Int → E0 → Int → Option Int
  | 0, _, _, _, _, _, _, _ => none
  | fu + 1, c, m01, m21, i, v181, x1, v38 =>
    if (decide (v38 < (([x1.Params, x1.Vars]).length : Int))) = true then
      idx [x1.Params, x1.Vars] v38 >>= fun x3 =>
      G7 fu c m01 m21 i v181 x1 v38 x3 0
    else
      E7 fu c m01 (IntKind.i64.wrap (v181 + 1))
def G7 : Nat → D0 → (List (Str × Bool)) → (List (Str × Bool)) → Int → Int → E0 → Int → (List E0) → Int → Option Int
  | 0, _, _, _, _, _, _, _, _, _ => none
  | fu + 1, c, m02, m2, i1, v182, x1, v381, x3, v44 =>
    if (decide (v44 < ((x3).length : Int))) = true then
      idx x3 v44 >>= fun x4 =>
      some (mgt x4.Name c.names) >>= fun x5 =>
      some (mgt x4.Name m2) >>= fun x6 =>
      if (bif (x5.getD ebool.zero) then true else (x6.getD ebool.zero)) = true then
        some i1
      else
        G7 fu c m02 (mpt x4.Name true m2) i1 v182 x1 v381 x3 (IntKind.i64.wrap (v44 + 1))
    else
      F7 fu c m02 m2 i1 v182 x1 (IntKind.i64.wrap (v381 + 1))
end
theorem Hc (fu : Nat) : (∀ (c : D0) (m0 : List (Str × Bool)) (v18 : Int), Le (E7 fu c m0 v18) (A2 c m0 v18)) ∧ (∀ (c : D0) (m01 : List (Str × Bool)) (m21 : List (Str × Bool)) (i : Int) (v181 : Int) (x1 : E0) (v38 : Int), Le (F7 fu c m01 m21 i v181 x1 v38) (R1 c m01 m21 i v181 x1 v38)) ∧ (∀ (c : D0) (m02 : List (Str × Bool)) (m2 : List (Str × Bool)) (i1 : Int) (v182 : Int) (x1 : E0) (v381 : Int) (x3 : List E0) (v44 : Int), Le (G7 fu c m02 m2 i1 v182 x1 v381 x3 v44) (L2 c m02 m2 i1 v182 x1 v381 x3 v44)) := by
  induction fu with
  | zero => exact ⟨fun _ _ _ => Le.none, fun _ _ _ _ _ _ _ => Le.none, fun _ _ _ _ _ _ _ _ _ => Le.none⟩
  | succ fu ih =>
    obtain ⟨ih0, ih1, ih2⟩ := ih
    refine ⟨fun c m0 v18 => ?_, fun c m01 m21 i v181 x1 v38 => ?_, fun c m02 m2 i1 v182 x1 v381 x3 v44 => ?_⟩
    · rw [E7, A2]
      repeat (first | exact Le.rfl | exact ih0 _ _ _ | exact ih1 _ _ _ _ _ _ _ | exact ih2 _ _ _ _ _ _ _ _ _ | exact R0 _ | refine Le.bind ?_ (fun _ => ?_) | refine Le.ite ?_ ?_)
    · rw [F7, R1]
      repeat (first | exact Le.rfl | exact ih0 _ _ _ | exact ih1 _ _ _ _ _ _ _ | exact ih2 _ _ _ _ _ _ _ _ _ | exact R0 _ | refine Le.bind ?_ (fun _ => ?_) | refine Le.ite ?_ ?_)
    · rw [G7, L2]
      repeat (first | exact Le.rfl | exact ih0 _ _ _ | exact ih1 _ _ _ _ _ _ _ | exact ih2 _ _ _ _ _ _ _ _ _ | exact R0 _ | refine Le.bind ?_ (fun _ => ?_) | refine Le.ite ?_ ?_)
theorem Dr (fu : Nat) (c : D0) (m0 : List (Str × Bool)) (v18 : Int) : Le (E7 fu c m0 v18) (A2 c m0 v18) := (Hc fu).1 c m0 v18
theorem J18 (fu : Nat) (c : D0) (m01 : List (Str × Bool)) (m21 : List (Str × Bool)) (i : Int) (v181 : Int) (x1 : E0) (v38 : Int) : Le (F7 fu c m01 m21 i v181 x1 v38) (R1 c m01 m21 i v181 x1 v38) := (Hc fu).2.1 c m01 m21 i v181 x1 v38
theorem K18 (fu : Nat) (c : D0) (m02 : List (Str × Bool)) (m2 : List (Str × Bool)) (i1 : Int) (v182 : Int) (x1 : E0) (v381 : Int) (x3 : List E0) (v44 : Int) : Le (G7 fu c m02 m2 i1 v182 x1 v381 x3 v44) (L2 c m02 m2 i1 v182 x1 v381 x3 v44) := (Hc fu).2.2 c m02 m2 i1 v182 x1 v381 x3 v44
def Uf (fu : Nat) (c : D0) : Option Int :=
  E7 fu c [] 0
theorem Ut (fu : Nat) (c : D0) : Le (Uf fu c) (N7 c) := by
  unfold Uf N7
  repeat (first | exact Le.rfl | exact Dr fu _ _ _ | exact R0 _ | refine Le.bind ?_ (fun _ => ?_) | refine Le.ite ?_ ?_)
def Yk (fu : Nat) (t : A0) : Option Int :=
  Sc fu t 1 (B0.mk 0 0 false false false) >>= fun x1 =>
  Oe fu x1 >>= fun x2 =>
  some x2
theorem Kv (fu : Nat) (t : A0) : Le (Yk fu t) (Ra t) := by
  unfold Yk Ra
  repeat (first | exact Le.rfl | exact Rb fu _ _ _ | exact Gm fu _ | exact R0 _ | refine Le.bind ?_ (fun _ => ?_) | refine Le.ite ?_ ?_)
mutual
def Ej : Nat → A0 → (List (Str × A0)) → Option (A0 × Bool)
  | 0, _, _ => none
  | fu + 1, t, m =>
    if (t.Kind == 4) = true then
      some (mgt t.Name m) >>= fun x1 =>
      if (!x1.isSome) = true then
        some ((A0.mk 0 0 0 0 [] [] []), false)
      else
        Zf fu m (x1.getD A0.zero)
    else
      Zf fu m t
def Zf : Nat → (List (Str × A0)) → A0 → Option (A0 × Bool)
  | 0, _, _ => none
  | fu + 1, m, o1 =>
    X9 o1.Names >>= fun x2 =>
    Ag fu m o1 x2 [] 0
def Ag : Nat → (List (Str × A0)) → A0 → (List Str) → (List A0) → Int → Option (A0 × Bool)
  | 0, _, _, _, _, _ => none
  | fu + 1, m, o1, x2, o3_Of, v36 =>
    if (decide (v36 < ((o1.Of).length : Int))) = true then
      idx o1.Of v36 >>= fun x3 =>
      Ej fu x3 m >>= fun x4 =>
      if (!x4.2) = true then
        some ((A0.mk 0 0 0 0 [] [] []), false)
      else
        if (decide ((o3_Of.length + 1) * 97 ≤ 140737488355328)) = true then
          Ag fu m o1 x2 (o3_Of ++ [x4.1]) (IntKind.i64.wrap (v36 + 1))
        else none
    else
      some ((A0.mk o1.Kind o1.Low o1.High o1.Size o1.Name x2 o3_Of), true)
end
theorem Rp (fu : Nat) : (∀ (t : A0) (m : List (Str × A0)), Le (Ej fu t m) (E5 t m)) ∧ (∀ (m : List (Str × A0)) (o1 : A0), Le (Zf fu m o1) (O7 m o1)) ∧ (∀ (m : List (Str × A0)) (o1 : A0) (x2 : List Str) (o3_Of : List A0) (v36 : Int), Le (Ag fu m o1 x2 o3_Of v36) (S4 m o1 x2 o3_Of v36)) := by
  induction fu with
  | zero => exact ⟨fun _ _ => Le.none, fun _ _ => Le.none, fun _ _ _ _ _ => Le.none⟩
  | succ fu ih =>
    obtain ⟨ih0, ih1, ih2⟩ := ih
    refine ⟨fun t m => ?_, fun m o1 => ?_, fun m o1 x2 o3_Of v36 => ?_⟩
    · rw [Ej, E5]
      repeat (first | exact Le.rfl | exact ih0 _ _ | exact ih1 _ _ | exact ih2 _ _ _ _ _ | exact R0 _ | refine Le.bind ?_ (fun _ => ?_) | refine Le.ite ?_ ?_)
    · rw [Zf, O7]
      repeat (first | exact Le.rfl | exact ih0 _ _ | exact ih1 _ _ | exact ih2 _ _ _ _ _ | exact R0 _ | refine Le.bind ?_ (fun _ => ?_) | refine Le.ite ?_ ?_)
    · rw [Ag, S4]
      repeat (first | exact Le.rfl | exact ih0 _ _ | exact ih1 _ _ | exact ih2 _ _ _ _ _ | exact R0 _ | refine Le.bind ?_ (fun _ => ?_) | refine Le.ite ?_ ?_)
theorem W17 (fu : Nat) (t : A0) (m : List (Str × A0)) : Le (Ej fu t m) (E5 t m) := (Rp fu).1 t m
theorem W1l (fu : Nat) (m : List (Str × A0)) (o1 : A0) : Le (Zf fu m o1) (O7 m o1) := (Rp fu).2.1 m o1
theorem X1l (fu : Nat) (m : List (Str × A0)) (o1 : A0) (x2 : List Str) (o3_Of : List A0) (v36 : Int) : Le (Ag fu m o1 x2 o3_Of v36) (S4 m o1 x2 o3_Of v36) := (Rp fu).2.2 m o1 x2 o3_Of v36
def R7 : Nat → (List Str) → Str → Int → Option Int
  | 0, _, _, _ => none
  | fu + 1, s, v, v8 =>
    if (decide (v8 < ((s).length : Int))) = true then
      idx s v8 >>= fun x1 =>
      if (v == x1) = true then
        some v8
      else
        R7 fu s v (IntKind.i64.wrap (v8 + 1))
    else
      some (-1)
theorem Er (fu : Nat) : (∀ (s : List Str) (v : Str) (v8 : Int), Le (R7 fu s v v8) (F2 s v v8)) := by
  induction fu with
  | zero => exact fun _ _ _ => Le.none
  | succ fu ih =>
    have ih0 := ih
    refine fun s v v8 => ?_
    · rw [R7, F2]
      repeat (first | exact Le.rfl | exact ih0 _ _ _ | exact R0 _ | refine Le.bind ?_ (fun _ => ?_) | refine Le.ite ?_ ?_)
theorem As (fu : Nat) (s : List Str) (v : Str) (v8 : Int) : Le (R7 fu s v v8) (F2 s v v8) := (Er fu) s v v8
def Kg (fu : Nat) (s : List Str) (v : Str) : Option Int :=
  R7 fu s v 0
theorem Tu (fu : Nat) (s : List Str) (v : Str) : Le (Kg fu s v) (X7 s v) := by
  unfold Kg X7
  repeat (first | exact Le.rfl | exact As fu _ _ _ | exact R0 _ | refine Le.bind ?_ (fun _ => ?_) | refine Le.ite ?_ ?_)
def Ee (fu : Nat) (s : List Str) (v : Str) : Option Bool :=
  Kg fu s v >>= fun x1 =>
  some (decide (x1 ≥ 0))
theorem H7 (fu : Nat) (s : List Str) (v : Str) : Le (Ee fu s v) (Y4 s v) := by
  unfold Ee Y4
  repeat (first | exact Le.rfl | exact Tu fu _ _ | exact R0 _ | refine Le.bind ?_ (fun _ => ?_) | refine Le.ite ?_ ?_)
mutual
def Hk : Nat → A0 → Option Bool
  | 0, _ => none
  | fu + 1, t =>
    Fj fu t 0
def Fj : Nat → A0 → Int → Option Bool
  | 0, _, _ => none
  | fu + 1, t, v8 =>
    if (decide (v8 < ((t.Names).length : Int))) = true then
      idx t.Names v8 >>= fun x1 =>
      slc t.Names 0 v8 >>= fun x2 =>
      Ee fu x2 x1 >>= fun x3 =>
      if x3 = true then
        some true
      else
        Fj fu t (IntKind.i64.wrap (v8 + 1))
    else
      Y6 fu t.Of >>= fun x4 =>
      some x4
def Y6 : Nat → (List A0) → Option Bool
  | 0, _ => none
  | fu + 1, s =>
    G8 fu s >>= fun x1 =>
    some (decide (x1 ≥ 0))
def G8 : Nat → (List A0) → Option Int
  | 0, _ => none
  | fu + 1, s =>
    X4 fu s 0
def X4 : Nat → (List A0) → Int → Option Int
  | 0, _, _ => none
  | fu + 1, s, v8 =>
    if (decide (v8 < ((s).length : Int))) = true then
      idx s v8 >>= fun x1 =>
      Hk fu x1 >>= fun x2 =>
      if x2 = true then
        some v8
      else
        X4 fu s (IntKind.i64.wrap (v8 + 1))
    else
      some (-1)
end
theorem Zk (fu : Nat) : (∀ (t : A0), Le (Hk fu t) (Mb t)) ∧ (∀ (t : A0) (v8 : Int), Le (Fj fu t v8) (Da t v8)) ∧ (∀ (s : List A0), Le (Y6 fu s) (X1 s)) ∧ (∀ (s : List A0), Le (G8 fu s) (Q3 s)) ∧ (∀ (s : List A0) (v8 : Int), Le (X4 fu s v8) (T1 s v8)) := by
  induction fu with
  | zero => exact ⟨fun _ => Le.none, fun _ _ => Le.none, fun _ => Le.none, fun _ => Le.none, fun _ _ => Le.none⟩
  | succ fu ih =>
    obtain ⟨ih0, ih1, ih2, ih3, ih4⟩ := ih
    refine ⟨fun t => ?_, fun t v8 => ?_, fun s => ?_, fun s => ?_, fun s v8 => ?_⟩
    · rw [Hk, Mb]
      repeat (first | exact Le.rfl | exact ih0 _ | exact ih1 _ _ | exact ih2 _ | exact ih3 _ | exact ih4 _ _ | exact H7 fu _ _ | exact R0 _ | refine Le.bind ?_ (fun _ => ?_) | refine Le.ite ?_ ?_)
    · rw [Fj, Da]
      repeat (first | exact Le.rfl | exact ih0 _ | exact ih1 _ _ | exact ih2 _ | exact ih3 _ | exact ih4 _ _ | exact H7 fu _ _ | exact R0 _ | refine Le.bind ?_ (fun _ => ?_) | refine Le.ite ?_ ?_)
    · rw [Y6, X1]
      repeat (first | exact Le.rfl | exact ih0 _ | exact ih1 _ _ | exact ih2 _ | exact ih3 _ | exact ih4 _ _ | exact H7 fu _ _ | exact R0 _ | refine Le.bind ?_ (fun _ => ?_) | refine Le.ite ?_ ?_)
    · rw [G8, Q3]
      repeat (first | exact Le.rfl | exact ih0 _ | exact ih1 _ _ | exact ih2 _ | exact ih3 _ | exact ih4 _ _ | exact H7 fu _ _ | exact R0 _ | refine Le.bind ?_ (fun _ => ?_) | refine Le.ite ?_ ?_)
    · rw [X4, T1]
      repeat (first | exact Le.rfl | exact ih0 _ | exact ih1 _ _ | exact ih2 _ | exact ih3 _ | exact ih4 _ _ | exact H7 fu _ _ | exact R0 _ | refine Le.bind ?_ (fun _ => ?_) | refine Le.ite ?_ ?_)
theorem Y12 (fu : Nat) (t : A0) : Le (Hk fu t) (Mb t) := (Zk fu).1 t
theorem D1p (fu : Nat) (t : A0) (v8 : Int) : Le (Fj fu t v8) (Da t v8) := (Zk fu).2.1 t v8
theorem A14 (fu : Nat) (s : List A0) : Le (Y6 fu s) (X1 s) := (Zk fu).2.2.1 s
theorem J15 (fu : Nat) (s : List A0) : Le (G8 fu s) (Q3 s) := (Zk fu).2.2.2.1 s
theorem B14 (fu : Nat) (s : List A0) (v8 : Int) : Le (X4 fu s v8) (T1 s v8) := (Zk fu).2.2.2.2 s v8
mutual
def Pn : Nat → A0 → Option Int
  | 0, _ => none
  | fu + 1, t =>
    Gj fu t 0 0
def Gj : Nat → A0 → Int → Int → Option Int
  | 0, _, _, _ => none
  | fu + 1, t, d, v9 =>
    if (decide (v9 < ((t.Of).length : Int))) = true then
      idx t.Of v9 >>= fun x1 =>
      Pn fu x1 >>= fun x2 =>
      Gj fu t (max d x2) (IntKind.i64.wrap (v9 + 1))
    else
      some (IntKind.i64.wrap (d + 1))
end
theorem T10 (fu : Nat) : (∀ (t : A0), Le (Pn fu t) (Xc t)) ∧ (∀ (t : A0) (d : Int) (v9 : Int), Le (Gj fu t d v9) (Ea t d v9)) := by
  induction fu with
  | zero => exact ⟨fun _ => Le.none, fun _ _ _ => Le.none⟩
  | succ fu ih =>
    obtain ⟨ih0, ih1⟩ := ih
    refine ⟨fun t => ?_, fun t d v9 => ?_⟩
    · rw [Pn, Xc]
      repeat (first | exact Le.rfl | exact ih0 _ | exact ih1 _ _ _ | exact R0 _ | refine Le.bind ?_ (fun _ => ?_) | refine Le.ite ?_ ?_)
    · rw [Gj, Ea]
      repeat (first | exact Le.rfl | exact ih0 _ | exact ih1 _ _ _ | exact R0 _ | refine Le.bind ?_ (fun _ => ?_) | refine Le.ite ?_ ?_)
theorem P1c (fu : Nat) (t : A0) : Le (Pn fu t) (Xc t) := (T10 fu).1 t
theorem E1p (fu : Nat) (t : A0) (d : Int) (v9 : Int) : Le (Gj fu t d v9) (Ea t d v9) := (T10 fu).2 t d v9
mutual
def Ph : Nat → A0 → Option Int
  | 0, _ => none
  | fu + 1, t =>
    if (t.Kind == 2) = true then
      idx t.Of 0 >>= fun x1 =>
      Ph fu x1 >>= fun x3 =>
      some (min (IntKind.i64.wrap ((min t.Size 33) * x3)) 33)
    else
      if (t.Kind == 3) = true then
        Hj fu t 0 0
      else
        some (min 1 33)
def Hj : Nat → A0 → Int → Int → Option Int
  | 0, _, _, _ => none
  | fu + 1, t, n, v24 =>
    if (decide (v24 < ((t.Of).length : Int))) = true then
      idx t.Of v24 >>= fun x2 =>
      Ph fu x2 >>= fun x4 =>
      Hj fu t (IntKind.i64.wrap (n + x4)) (IntKind.i64.wrap (v24 + 1))
    else
      some (min n 33)
end
theorem U10 (fu : Nat) : (∀ (t : A0), Le (Ph fu t) (Fa t)) ∧ (∀ (t : A0) (n : Int) (v24 : Int), Le (Hj fu t n v24) (Ga t n v24)) := by
  induction fu with
  | zero => exact ⟨fun _ => Le.none, fun _ _ _ => Le.none⟩
  | succ fu ih =>
    obtain ⟨ih0, ih1⟩ := ih
    refine ⟨fun t => ?_, fun t n v24 => ?_⟩
    · rw [Ph, Fa]
      repeat (first | exact Le.rfl | exact ih0 _ | exact ih1 _ _ _ | exact R0 _ | refine Le.bind ?_ (fun _ => ?_) | refine Le.ite ?_ ?_)
    · rw [Hj, Ga]
      repeat (first | exact Le.rfl | exact ih0 _ | exact ih1 _ _ _ | exact R0 _ | refine Le.bind ?_ (fun _ => ?_) | refine Le.ite ?_ ?_)
theorem Z12 (fu : Nat) (t : A0) : Le (Ph fu t) (Fa t) := (U10 fu).1 t
theorem F1p (fu : Nat) (t : A0) (n : Int) (v24 : Int) : Le (Hj fu t n v24) (Ga t n v24) := (U10 fu).2 t n v24
def En (fu : Nat) (t : A0) (m : List (Str × A0)) : Option (A0 × Int) :=
  Yk fu t >>= fun x1 =>
  if (x1 != 0) = true then
    some ((A0.mk 0 0 0 0 [] [] []), x1)
  else
    Ej fu t m >>= fun x2 =>
    if (!x2.2) = true then
      some ((A0.mk 0 0 0 0 [] [] []), 7)
    else
      Hk fu x2.1 >>= fun x3 =>
      if x3 = true then
        some ((A0.mk 0 0 0 0 [] [] []), 8)
      else
        Pn fu x2.1 >>= fun x4 =>
        (if (!(decide (x4 > 12))) = true then Ph fu x2.1 else some default) >>= fun x5 =>
        if (bif (decide (x4 > 12)) then true else (decide (x5 > 32))) = true then
          some ((A0.mk 0 0 0 0 [] [] []), 4)
        else
          some (x2.1, 0)
theorem X17 (fu : Nat) (t : A0) (m : List (Str × A0)) : Le (En fu t m) (Sd t m) := by
  unfold En Sd
  repeat (first | exact Le.rfl | exact Kv fu _ | exact W17 fu _ _ | exact Y12 fu _ | exact P1c fu _ | exact Z12 fu _ | exact R0 _ | refine Le.bind ?_ (fun _ => ?_) | refine Le.ite ?_ ?_)
def Ff : Nat → (List E0) → A0 → (List (Str × A0)) → Int → Option (A0 × Int)
  | 0, _, _, _, _ => none
  | fu + 1, decls, t, m2, v16 =>
    if (decide (v16 < ((decls).length : Int))) = true then
      idx decls v16 >>= fun x1 =>
      if (x1.Kind != 0) = true then
        Ff fu decls t m2 (IntKind.i64.wrap (v16 + 1))
      else
        Lo fu x1.Name >>= fun x2 =>
        if (!x2) = true then
          some ((A0.mk 0 0 0 0 [] [] []), 7)
        else
          some (mgt x1.Name m2) >>= fun x3 =>
          if x3.isSome = true then
            some ((A0.mk 0 0 0 0 [] [] []), 8)
          else
            En fu x1.TypeV m2 >>= fun x4 =>
            if (x4.2 != 0) = true then
              some ((A0.mk 0 0 0 0 [] [] []), x4.2)
            else
              Ff fu decls t (mpt x1.Name x4.1 m2) (IntKind.i64.wrap (v16 + 1))
    else
      En fu t m2 >>= fun x5 =>
      some (x5.1, x5.2)
theorem E15 (fu : Nat) : (∀ (decls : List E0) (t : A0) (m2 : List (Str × A0)) (v16 : Int), Le (Ff fu decls t m2 v16) (W6 decls t m2 v16)) := by
  induction fu with
  | zero => exact fun _ _ _ _ => Le.none
  | succ fu ih =>
    have ih0 := ih
    refine fun decls t m2 v16 => ?_
    · rw [Ff, W6]
      repeat (first | exact Le.rfl | exact ih0 _ _ _ _ | exact Uz fu _ | exact X17 fu _ _ | exact R0 _ | refine Le.bind ?_ (fun _ => ?_) | refine Le.ite ?_ ?_)
theorem N16 (fu : Nat) (decls : List E0) (t : A0) (m2 : List (Str × A0)) (v16 : Int) : Le (Ff fu decls t m2 v16) (W6 decls t m2 v16) := (E15 fu) decls t m2 v16
def Aw (fu : Nat) (decls : List E0) (t : A0) : Option (A0 × Int) :=
  Ff fu decls t [] 0
theorem G1b (fu : Nat) (decls : List E0) (t : A0) : Le (Aw fu decls t) (Dj decls t) := by
  unfold Aw Dj
  repeat (first | exact Le.rfl | exact N16 fu _ _ _ _ | exact R0 _ | refine Le.bind ?_ (fun _ => ?_) | refine Le.ite ?_ ?_)
def Z9 (fu : Nat) (c : D0) (t : A0) (before : Int) : Option (A0 × Int) :=
  slc c.p.Decls 0 before >>= fun x1 =>
  Aw fu x1 t >>= fun x2 =>
  some (x2.1, x2.2)
theorem Mc (fu : Nat) (c : D0) (t : A0) (before : Int) : Le (Z9 fu c t before) (P4 c t before) := by
  unfold Z9 P4
  repeat (first | exact Le.rfl | exact G1b fu _ _ | exact R0 _ | refine Le.bind ?_ (fun _ => ?_) | refine Le.ite ?_ ?_)
def Wd (fu : Nat) (t : A0) : Option Bool :=
  some (bif (t.Kind == 0) then true else (t.Kind == 1))
theorem Tc (fu : Nat) (t : A0) : Le (Wd fu t) (D7 t) := by
  unfold Wd D7
  repeat (first | exact Le.rfl | exact R0 _ | refine Le.bind ?_ (fun _ => ?_) | refine Le.ite ?_ ?_)
def Gb (fu : Nat) (s : Option I0) : Option (List (Str × J0) × Option I0) :=
  some ([], s)
theorem L8 (fu : Nat) (s : Option I0) : Le (Gb fu s) (N4 s) := by
  unfold Gb N4
  repeat (first | exact Le.rfl | exact R0 _ | refine Le.bind ?_ (fun _ => ?_) | refine Le.ite ?_ ?_)
def F5 (fu : Nat) (c : D0) (t : A0) (before : Int) : Option A0 :=
  Z9 fu c t before >>= fun x1 =>
  some x1.1
theorem H6 (fu : Nat) (c : D0) (t : A0) (before : Int) : Le (F5 fu c t before) (S2 c t before) := by
  unfold F5 S2
  repeat (first | exact Le.rfl | exact Mc fu _ _ _ | exact R0 _ | refine Le.bind ?_ (fun _ => ?_) | refine Le.ite ?_ ?_)
def I6 : Nat → D0 → Bool → (List (Str × J0)) → (List (Str × J0) × Option I0) → (List E0) → Int → Option (Option I0)
  | 0, _, _, _, _, _, _ => none
  | fu + 1, c, variables, m0, x1, x2, v22 =>
    if (decide (v22 < ((x2).length : Int))) = true then
      idx x2 v22 >>= fun x3 =>
      if (bif (bif (bif (x3.Kind == 1) then true else (x3.Kind == 2)) then true else (x3.Kind == 3)) then true else (bif variables then (x3.Kind == 4) else false)) = true then
        F5 fu c x3.TypeV v22 >>= fun x4 =>
        I6 fu c variables (mpt x3.Name (J0.mk x4 (bif (bif (x3.Kind == 1) then true else (x3.Kind == 2)) then true else (x3.Kind == 3))) m0) x1 x2 (IntKind.i64.wrap (v22 + 1))
      else
        I6 fu c variables m0 x1 x2 (IntKind.i64.wrap (v22 + 1))
    else
      some (some (I0.mk x1.2 m0)) >>= fun x5 =>
      some x5
theorem Ps (fu : Nat) : (∀ (c : D0) (variables : Bool) (m0 : List (Str × J0)) (x1 : List (Str × J0) × Option I0) (x2 : List E0) (v22 : Int), Le (I6 fu c variables m0 x1 x2 v22) (E2 c variables m0 x1 x2 v22)) := by
  induction fu with
  | zero => exact fun _ _ _ _ _ _ => Le.none
  | succ fu ih =>
    have ih0 := ih
    refine fun c variables m0 x1 x2 v22 => ?_
    · rw [I6, E2]
      repeat (first | exact Le.rfl | exact ih0 _ _ _ _ _ _ | exact H6 fu _ _ _ | exact R0 _ | refine Le.bind ?_ (fun _ => ?_) | refine Le.ite ?_ ?_)
theorem Vt (fu : Nat) (c : D0) (variables : Bool) (m0 : List (Str × J0)) (x1 : List (Str × J0) × Option I0) (x2 : List E0) (v22 : Int) : Le (I6 fu c variables m0 x1 x2 v22) (E2 c variables m0 x1 x2 v22) := (Ps fu) c variables m0 x1 x2 v22
def Aa (fu : Nat) (c : D0) (before : Int) (variables : Bool) : Option (Option I0) :=
  Gb fu none >>= fun x1 =>
  slc c.p.Decls 0 before >>= fun x2 =>
  I6 fu c variables x1.1 x1 x2 0
theorem Ch (fu : Nat) (c : D0) (before : Int) (variables : Bool) : Le (Aa fu c before variables) (Q4 c before variables) := by
  unfold Aa Q4
  repeat (first | exact Le.rfl | exact L8 fu _ | exact Vt fu _ _ _ _ _ _ | exact R0 _ | refine Le.bind ?_ (fun _ => ?_) | refine Le.ite ?_ ?_)
def U3 (fu : Nat) (low : Int) (high : Int) : Option A0 :=
  some (A0.mk 1 low high 0 [] [] [])
theorem Z5 (fu : Nat) (low : Int) (high : Int) : Le (U3 fu low high) (W2 low high) := by
  unfold U3 W2
  repeat (first | exact Le.rfl | exact R0 _ | refine Le.bind ?_ (fun _ => ?_) | refine Le.ite ?_ ?_)
def Ij (fu : Nat) (t : A0) : Option (A0 × Int) :=
  if (bif (t.Kind == 1) then (bif (decide (t.Low < (-1048576))) then true else (decide (t.High > 1048576))) else false) = true then
    some ((A0.mk 0 0 0 0 [] [] []), 3)
  else
    some (t, 0)
theorem Pl (fu : Nat) (t : A0) : Le (Ij fu t) (X8 t) := by
  unfold Ij X8
  repeat (first | exact Le.rfl | exact R0 _ | refine Le.bind ?_ (fun _ => ?_) | refine Le.ite ?_ ?_)
def M9 : Nat → Str → (Option I0) → Option (J0 × Bool)
  | 0, _, _ => none
  | fu + 1, name, s1 =>
    if (!s1.isNone) = true then
      s1 >>= fun x1 =>
      some (mgt name x1.vars) >>= fun x2 =>
      if x2.isSome = true then
        some ((x2.getD J0.zero), true)
      else
        s1 >>= fun x3 =>
        M9 fu name x3.around
    else
      some ((J0.mk (A0.mk 0 0 0 0 [] [] []) false), false)
theorem Uu (fu : Nat) : (∀ (name : Str) (s1 : Option I0), Le (M9 fu name s1) (Y2 name s1)) := by
  induction fu with
  | zero => exact fun _ _ => Le.none
  | succ fu ih =>
    have ih0 := ih
    refine fun name s1 => ?_
    · rw [M9, Y2]
      repeat (first | exact Le.rfl | exact ih0 _ _ | exact R0 _ | refine Le.bind ?_ (fun _ => ?_) | refine Le.ite ?_ ?_)
theorem Bw (fu : Nat) (name : Str) (s1 : Option I0) : Le (M9 fu name s1) (Y2 name s1) := (Uu fu) name s1
def Hb (fu : Nat) (s : Option I0) (name : Str) : Option (J0 × Bool) :=
  M9 fu name s
theorem Hi (fu : Nat) (s : Option I0) (name : Str) : Le (Hb fu s name) (M5 s name) := by
  unfold Hb M5
  repeat (first | exact Le.rfl | exact Bw fu _ _ | exact R0 _ | refine Le.bind ?_ (fun _ => ?_) | refine Le.ite ?_ ?_)
def Ib : Nat → A0 → Str → Int → Option (A0 × Int)
  | 0, _, _, _ => none
  | fu + 1, t, name, v15 =>
    if (decide (v15 < ((t.Names).length : Int))) = true then
      idx t.Names v15 >>= fun x1 =>
      if (x1 == name) = true then
        idx t.Of v15 >>= fun x2 =>
        some (x2, 0)
      else
        Ib fu t name (IntKind.i64.wrap (v15 + 1))
    else
      some ((A0.mk 0 0 0 0 [] [] []), 7)
theorem Sx (fu : Nat) : (∀ (t : A0) (name : Str) (v15 : Int), Le (Ib fu t name v15) (A4 t name v15)) := by
  induction fu with
  | zero => exact fun _ _ _ => Le.none
  | succ fu ih =>
    have ih0 := ih
    refine fun t name v15 => ?_
    · rw [Ib, A4]
      repeat (first | exact Le.rfl | exact ih0 _ _ _ | exact R0 _ | refine Le.bind ?_ (fun _ => ?_) | refine Le.ite ?_ ?_)
theorem Py (fu : Nat) (t : A0) (name : Str) (v15 : Int) : Le (Ib fu t name v15) (A4 t name v15) := (Sx fu) t name v15
def Im (fu : Nat) (t : A0) (name : Str) : Option (A0 × Int) :=
  if (t.Kind != 3) = true then
    some ((A0.mk 0 0 0 0 [] [] []), 9)
  else
    Ib fu t name 0
theorem L11 (fu : Nat) (t : A0) (name : Str) : Le (Im fu t name) (J7 t name) := by
  unfold Im J7
  repeat (first | exact Le.rfl | exact Py fu _ _ _ | exact R0 _ | refine Le.bind ?_ (fun _ => ?_) | refine Le.ite ?_ ?_)
def Ba : Nat → Int → (List A0) → Int → Option Bool
  | 0, _, _, _ => none
  | fu + 1, k, l, v9 =>
    if (decide (v9 < ((l).length : Int))) = true then
      idx l v9 >>= fun x1 =>
      if (x1.Kind != k) = true then
        some false
      else
        Ba fu k l (IntKind.i64.wrap (v9 + 1))
    else
      some true
theorem Cw (fu : Nat) : (∀ (k : Int) (l : List A0) (v9 : Int), Le (Ba fu k l v9) (F3 k l v9)) := by
  induction fu with
  | zero => exact fun _ _ _ => Le.none
  | succ fu ih =>
    have ih0 := ih
    refine fun k l v9 => ?_
    · rw [Ba, F3]
      repeat (first | exact Le.rfl | exact ih0 _ _ _ | exact R0 _ | refine Le.bind ?_ (fun _ => ?_) | refine Le.ite ?_ ?_)
theorem Ix (fu : Nat) (k : Int) (l : List A0) (v9 : Int) : Le (Ba fu k l v9) (F3 k l v9) := (Cw fu) k l v9
def Q9 (fu : Nat) (k : Int) (l : List A0) : Option Bool :=
  Ba fu k l 0
theorem Sp (fu : Nat) (k : Int) (l : List A0) : Le (Q9 fu k l) (V5 k l) := by
  unfold Q9 V5
  repeat (first | exact Le.rfl | exact Ix fu _ _ _ | exact R0 _ | refine Le.bind ?_ (fun _ => ?_) | refine Le.ite ?_ ?_)
def Jm (fu : Nat) (t : A0) : Option Int :=
  some (max t.High (IntKind.i64.wrap (0 - t.Low)))
theorem M11 (fu : Nat) (t : A0) : Le (Jm fu t) (Pc t) := by
  unfold Jm Pc
  repeat (first | exact Le.rfl | exact R0 _ | refine Le.bind ?_ (fun _ => ?_) | refine Le.ite ?_ ?_)
def Yd (fu : Nat) (low : Int) (high : Int) : Option A0 :=
  U3 fu low high >>= fun x7 =>
  some x7
theorem Tx (fu : Nat) (low : Int) (high : Int) : Le (Yd fu low high) (V7 low high) := by
  unfold Yd V7
  repeat (first | exact Le.rfl | exact Z5 fu _ _ | exact R0 _ | refine Le.bind ?_ (fun _ => ?_) | refine Le.ite ?_ ?_)
def Zd (fu : Nat) (b : A0) (low : Int) : Option A0 :=
  if (decide (b.High > 0)) = true then
    Yd fu low (max (IntKind.i64.wrap (b.High - 1)) 0)
  else
    Yd fu low 0
theorem Ux (fu : Nat) (b : A0) (low : Int) : Le (Zd fu b low) (W7 b low) := by
  unfold Zd W7
  repeat (first | exact Le.rfl | exact Tx fu _ _ | exact R0 _ | refine Le.bind ?_ (fun _ => ?_) | refine Le.ite ?_ ?_)
def Il (fu : Nat) (op : Int) (a : A0) (b : A0) : Option A0 :=
  if (op == 8) = true then
    U3 fu (IntKind.i64.wrap (a.Low + b.Low)) (IntKind.i64.wrap (a.High + b.High)) >>= fun x1 =>
    some x1
  else
    if (op == 9) = true then
      U3 fu (IntKind.i64.wrap (a.Low - b.High)) (IntKind.i64.wrap (a.High - b.Low)) >>= fun x2 =>
      some x2
    else
      if (op == 10) = true then
        U3 fu (min (min (min (IntKind.i64.wrap (a.Low * b.Low)) (IntKind.i64.wrap (a.Low * b.High))) (IntKind.i64.wrap (a.High * b.Low))) (IntKind.i64.wrap (a.High * b.High))) (max (max (max (IntKind.i64.wrap (a.Low * b.Low)) (IntKind.i64.wrap (a.Low * b.High))) (IntKind.i64.wrap (a.High * b.Low))) (IntKind.i64.wrap (a.High * b.High))) >>= fun x3 =>
        some x3
      else
        if (op == 11) = true then
          Jm fu a >>= fun x4 =>
          if (bif (decide (a.Low ≥ 0)) then (decide (b.Low ≥ 0)) else false) = true then
            U3 fu 0 x4 >>= fun x5 =>
            some x5
          else
            U3 fu (IntKind.i64.wrap (0 - x4)) x4 >>= fun x6 =>
            some x6
        else
          if (op == 12) = true then
            if (decide (b.Low < 0)) = true then
              Zd fu b (min (IntKind.i64.wrap (b.Low + 1)) 0)
            else
              Zd fu b 0
          else
            if (op == 21) = true then
              U3 fu (min a.Low b.Low) (min a.High b.High) >>= fun x8 =>
              some x8
            else
              U3 fu (max a.Low b.Low) (max a.High b.High) >>= fun x9 =>
              some x9
theorem C10 (fu : Nat) (op : Int) (a : A0) (b : A0) : Le (Il fu op a b) (D8 op a b) := by
  unfold Il D8
  repeat (first | exact Le.rfl | exact Z5 fu _ _ | exact M11 fu _ | exact Ux fu _ _ | exact R0 _ | refine Le.bind ?_ (fun _ => ?_) | refine Le.ite ?_ ?_)
def B9 (fu : Nat) (op : Int) (kids : List A0) (x1 : Bool) (v60 : Bool) : Option (A0 × Int) :=
  if v60 = true then
    if x1 = true then
      some ((A0.mk 0 0 0 0 [] [] []), 0)
    else
      some ((A0.mk 0 0 0 0 [] [] []), 9)
  else
    if (op == 23) = true then
      slc kids 1 ((kids).length : Int) >>= fun x7 =>
      idx kids 0 >>= fun x8 =>
      if (x8.Kind != 0) = true then
        some ((A0.mk 0 0 0 0 [] [] []), 9)
      else
        Q9 fu 1 x7 >>= fun x9 =>
        if x9 = true then
          idx x7 0 >>= fun x10 =>
          idx x7 1 >>= fun x11 =>
          idx x7 0 >>= fun x12 =>
          idx x7 1 >>= fun x13 =>
          U3 fu (min x10.Low x11.Low) (max x12.High x13.High) >>= fun x14 =>
          some (x14, 0)
        else
          Q9 fu 0 x7 >>= fun x15 =>
          if x15 = true then
            some ((A0.mk 0 0 0 0 [] [] []), 0)
          else
            some ((A0.mk 0 0 0 0 [] [] []), 9)
    else
      if x1 = true then
        idx kids 0 >>= fun x16 =>
        idx kids 1 >>= fun x17 =>
        Il fu op x16 x17 >>= fun x18 =>
        Ij fu x18 >>= fun x19 =>
        some (x19.1, x19.2)
      else
        some ((A0.mk 0 0 0 0 [] [] []), 9)
theorem Qy (fu : Nat) (op : Int) (kids : List A0) (x1 : Bool) (v60 : Bool) : Le (B9 fu op kids x1 v60) (R6 op kids x1 v60) := by
  unfold B9 R6
  repeat (first | exact Le.rfl | exact Sp fu _ _ | exact Z5 fu _ _ | exact C10 fu _ _ _ | exact Pl fu _ | exact R0 _ | refine Le.bind ?_ (fun _ => ?_) | refine Le.ite ?_ ?_)
def Pe (fu : Nat) (op : Int) (kids : List A0) (x1 : Bool) (x2 : Bool) (v52 : Bool) : Option (A0 × Int) :=
  if v52 = true then
    if (bif x1 then true else x2) = true then
      some ((A0.mk 0 0 0 0 [] [] []), 0)
    else
      some ((A0.mk 0 0 0 0 [] [] []), 9)
  else
    if (op == 15) = true then
      B9 fu op kids x1 (op == 15)
    else
      if (op == 16) = true then
        B9 fu op kids x1 (op == 16)
      else
        if (op == 17) = true then
          B9 fu op kids x1 (op == 17)
        else
          B9 fu op kids x1 (op == 18)
theorem Ry (fu : Nat) (op : Int) (kids : List A0) (x1 : Bool) (x2 : Bool) (v52 : Bool) : Le (Pe fu op kids x1 x2 v52) (Ha op kids x1 x2 v52) := by
  unfold Pe Ha
  repeat (first | exact Le.rfl | exact Qy fu _ _ _ _ | exact R0 _ | refine Le.bind ?_ (fun _ => ?_) | refine Le.ite ?_ ?_)
def Jb (fu : Nat) (op : Int) (kids : List A0) (x1 : Bool) (x2 : Bool) (v46 : Bool) : Option (A0 × Int) :=
  if v46 = true then
    if x2 = true then
      some ((A0.mk 0 0 0 0 [] [] []), 0)
    else
      some ((A0.mk 0 0 0 0 [] [] []), 9)
  else
    if (op == 13) = true then
      Pe fu op kids x1 x2 (op == 13)
    else
      Pe fu op kids x1 x2 (op == 14)
theorem Sy (fu : Nat) (op : Int) (kids : List A0) (x1 : Bool) (x2 : Bool) (v46 : Bool) : Le (Jb fu op kids x1 x2 v46) (S6 op kids x1 x2 v46) := by
  unfold Jb S6
  repeat (first | exact Le.rfl | exact Ry fu _ _ _ _ _ | exact R0 _ | refine Le.bind ?_ (fun _ => ?_) | refine Le.ite ?_ ?_)
def Km (fu : Nat) (op : Int) (kids : List A0) : Option (A0 × Int) :=
  Q9 fu 1 kids >>= fun x1 =>
  Q9 fu 0 kids >>= fun x2 =>
  if (op == 6) = true then
    if x1 = true then
      idx kids 0 >>= fun x3 =>
      idx kids 0 >>= fun x4 =>
      U3 fu (IntKind.i64.wrap (0 - x3.High)) (IntKind.i64.wrap (0 - x4.Low)) >>= fun x5 =>
      Ij fu x5 >>= fun x6 =>
      some (x6.1, x6.2)
    else
      some ((A0.mk 0 0 0 0 [] [] []), 9)
  else
    if (op == 7) = true then
      Jb fu op kids x1 x2 (op == 7)
    else
      if (op == 19) = true then
        Jb fu op kids x1 x2 (op == 19)
      else
        Jb fu op kids x1 x2 (op == 20)
theorem N11 (fu : Nat) (op : Int) (kids : List A0) : Le (Km fu op kids) (R8 op kids) := by
  unfold Km R8
  repeat (first | exact Le.rfl | exact Sp fu _ _ | exact Z5 fu _ _ | exact Pl fu _ | exact Sy fu _ _ _ _ _ | exact R0 _ | refine Le.bind ?_ (fun _ => ?_) | refine Le.ite ?_ ?_)
def Rj (fu : Nat) (s : Option I0) (e : C0) (kids1 : List A0) (v51 : Bool) : Option (A0 × Int) :=
  if v51 = true then
    some ((A0.mk 0 0 0 0 [] [] []), 0)
  else
    if (e.Op == 3) = true then
      Hb fu s e.Name >>= fun x4 =>
      if (!x4.2) = true then
        some ((A0.mk 0 0 0 0 [] [] []), 7)
      else
        some (x4.1.typ, 0)
    else
      if (e.Op == 4) = true then
        idx kids1 0 >>= fun x5 =>
        Im fu x5 e.Name >>= fun x6 =>
        some (x6.1, x6.2)
      else
        if (e.Op == 5) = true then
          idx kids1 0 >>= fun x7 =>
          (if (!(x7.Kind != 2)) = true then idx kids1 1 else some default) >>= fun x8 =>
          if (bif (x7.Kind != 2) then true else (x8.Kind != 1)) = true then
            some ((A0.mk 0 0 0 0 [] [] []), 9)
          else
            idx kids1 0 >>= fun x9 =>
            idx x9.Of 0 >>= fun x10 =>
            some (x10, 0)
        else
          Km fu e.Op kids1 >>= fun x11 =>
          some (x11.1, x11.2)
theorem Wt (fu : Nat) (s : Option I0) (e : C0) (kids1 : List A0) (v51 : Bool) : Le (Rj fu s e kids1 v51) (U8 s e kids1 v51) := by
  unfold Rj U8
  repeat (first | exact Le.rfl | exact Hi fu _ _ | exact L11 fu _ _ | exact N11 fu _ _ | exact R0 _ | refine Le.bind ?_ (fun _ => ?_) | refine Le.ite ?_ ?_)
mutual
def W9 : Nat → (Option I0) → C0 → Option (A0 × Int)
  | 0, _, _ => none
  | fu + 1, s, e =>
    if (decide (0 ≤ ((e.Kids).length : Int) ∧ ((e.Kids).length : Int).toNat * 97 ≤ 140737488355328)) = true then
      Bg fu s e [] 0
    else none
def Bg : Nat → (Option I0) → C0 → (List A0) → Int → Option (A0 × Int)
  | 0, _, _, _, _ => none
  | fu + 1, s, e, kids, v20 =>
    if (decide (v20 < ((e.Kids).length : Int))) = true then
      idx e.Kids v20 >>= fun x1 =>
      W9 fu s x1 >>= fun x12 =>
      if (x12.2 != 0) = true then
        some ((A0.mk 0 0 0 0 [] [] []), x12.2)
      else
        if (decide ((kids.length + 1) * 97 ≤ 140737488355328)) = true then
          Bg fu s e (kids ++ [x12.1]) (IntKind.i64.wrap (v20 + 1))
        else none
    else
      if (e.Op == 0) = true then
        U3 fu e.NV e.NV >>= fun x2 =>
        Ij fu x2 >>= fun x3 =>
        some (x3.1, x3.2)
      else
        if (e.Op == 1) = true then
          Rj fu s e kids (e.Op == 1)
        else
          Rj fu s e kids (e.Op == 2)
end
theorem Jx (fu : Nat) : (∀ (s : Option I0) (e : C0), Le (W9 fu s e) (W3 s e)) ∧ (∀ (s : Option I0) (e : C0) (kids : List A0) (v20 : Int), Le (Bg fu s e kids v20) (P7 s e kids v20)) := by
  induction fu with
  | zero => exact ⟨fun _ _ => Le.none, fun _ _ _ _ => Le.none⟩
  | succ fu ih =>
    obtain ⟨ih0, ih1⟩ := ih
    refine ⟨fun s e => ?_, fun s e kids v20 => ?_⟩
    · rw [W9, W3]
      repeat (first | exact Le.rfl | exact ih0 _ _ | exact ih1 _ _ _ _ | exact Z5 fu _ _ | exact Pl fu _ | exact Wt fu _ _ _ _ | exact R0 _ | refine Le.bind ?_ (fun _ => ?_) | refine Le.ite ?_ ?_)
    · rw [Bg, P7]
      repeat (first | exact Le.rfl | exact ih0 _ _ | exact ih1 _ _ _ _ | exact Z5 fu _ _ | exact Pl fu _ | exact Wt fu _ _ _ _ | exact R0 _ | refine Le.bind ?_ (fun _ => ?_) | refine Le.ite ?_ ?_)
theorem La (fu : Nat) (s : Option I0) (e : C0) : Le (W9 fu s e) (W3 s e) := (Jx fu).1 s e
theorem Y1l (fu : Nat) (s : Option I0) (e : C0) (kids : List A0) (v20 : Int) : Le (Bg fu s e kids v20) (P7 s e kids v20) := (Jx fu).2 s e kids v20
def Zn (fu : Nat) (e : C0) : Option Bool :=
  some (bif (bif (e.Op == 3) then true else (e.Op == 4)) then true else (e.Op == 5))
theorem C14 (fu : Nat) (e : C0) : Le (Zn fu e) (Df e) := by
  unfold Zn Df
  repeat (first | exact Le.rfl | exact R0 _ | refine Le.bind ?_ (fun _ => ?_) | refine Le.ite ?_ ?_)
mutual
def Qn : Nat → A0 → A0 → Option Bool
  | 0, _, _ => none
  | fu + 1, a, b =>
    (if (bif (bif (bif (bif (a.Kind == b.Kind) then (a.Low == b.Low) else false) then (a.High == b.High) else false) then (a.Size == b.Size) else false) then (a.Name == b.Name) else false) = true then Qb fu a.Names b.Names else some default) >>= fun x1 =>
    (if (bif (bif (bif (bif (bif (a.Kind == b.Kind) then (a.Low == b.Low) else false) then (a.High == b.High) else false) then (a.Size == b.Size) else false) then (a.Name == b.Name) else false) then x1 else false) = true then L3 fu a.Of b.Of else some default) >>= fun x2 =>
    some (bif (bif (bif (bif (bif (bif (a.Kind == b.Kind) then (a.Low == b.Low) else false) then (a.High == b.High) else false) then (a.Size == b.Size) else false) then (a.Name == b.Name) else false) then x1 else false) then x2 else false)
def L3 : Nat → (List A0) → (List A0) → Option Bool
  | 0, _, _ => none
  | fu + 1, s1, s2 =>
    if (((s1).length : Int) != ((s2).length : Int)) = true then
      some false
    else
      B2 fu s1 s2 0
def B2 : Nat → (List A0) → (List A0) → Int → Option Bool
  | 0, _, _, _ => none
  | fu + 1, s1, s2, v17 =>
    if (decide (v17 < ((s1).length : Int))) = true then
      idx s1 v17 >>= fun x1 =>
      idx s2 v17 >>= fun x2 =>
      Qn fu x1 x2 >>= fun x3 =>
      if (!x3) = true then
        some false
      else
        B2 fu s1 s2 (IntKind.i64.wrap (v17 + 1))
    else
      some true
end
theorem Xt (fu : Nat) : (∀ (a : A0) (b : A0), Le (Qn fu a b) (Yc a b)) ∧ (∀ (s1 : List A0) (s2 : List A0), Le (L3 fu s1 s2) (E1 s1 s2)) ∧ (∀ (s1 : List A0) (s2 : List A0) (v17 : Int), Le (B2 fu s1 s2 v17) (X0 s1 s2 v17)) := by
  induction fu with
  | zero => exact ⟨fun _ _ => Le.none, fun _ _ => Le.none, fun _ _ _ => Le.none⟩
  | succ fu ih =>
    obtain ⟨ih0, ih1, ih2⟩ := ih
    refine ⟨fun a b => ?_, fun s1 s2 => ?_, fun s1 s2 v17 => ?_⟩
    · rw [Qn, Yc]
      repeat (first | exact Le.rfl | exact ih0 _ _ | exact ih1 _ _ | exact ih2 _ _ _ | exact G6 fu _ _ | exact R0 _ | refine Le.bind ?_ (fun _ => ?_) | refine Le.ite ?_ ?_)
    · rw [L3, E1]
      repeat (first | exact Le.rfl | exact ih0 _ _ | exact ih1 _ _ | exact ih2 _ _ _ | exact G6 fu _ _ | exact R0 _ | refine Le.bind ?_ (fun _ => ?_) | refine Le.ite ?_ ?_)
    · rw [B2, X0]
      repeat (first | exact Le.rfl | exact ih0 _ _ | exact ih1 _ _ | exact ih2 _ _ _ | exact G6 fu _ _ | exact R0 _ | refine Le.bind ?_ (fun _ => ?_) | refine Le.ite ?_ ?_)
theorem Q1c (fu : Nat) (a : A0) (b : A0) : Le (Qn fu a b) (Yc a b) := (Xt fu).1 a b
theorem Vu (fu : Nat) (s1 : List A0) (s2 : List A0) : Le (L3 fu s1 s2) (E1 s1 s2) := (Xt fu).2.1 s1 s2
theorem Rs (fu : Nat) (s1 : List A0) (s2 : List A0) (v17 : Int) : Le (B2 fu s1 s2 v17) (X0 s1 s2 v17) := (Xt fu).2.2 s1 s2 v17
def Fd (fu : Nat) (fromV : A0) (to : A0) (place : Bool) : Option Bool :=
  Wd fu fromV >>= fun x1 =>
  (if (!x1) = true then Wd fu to else some default) >>= fun x2 =>
  if (bif x1 then true else x2) = true then
    some (fromV.Kind == to.Kind)
  else
    (if place = true then Qn fu fromV to else some default) >>= fun x3 =>
    some (bif place then x3 else false)
theorem Bk (fu : Nat) (fromV : A0) (to : A0) (place : Bool) : Le (Fd fu fromV to place) (N6 fromV to place) := by
  unfold Fd N6
  repeat (first | exact Le.rfl | exact Tc fu _ | exact Q1c fu _ _ | exact R0 _ | refine Le.bind ?_ (fun _ => ?_) | refine Le.ite ?_ ?_)
def Gf (fu : Nat) (s : Option I0) (e : C0) (to : A0) : Option Int :=
  W9 fu s e >>= fun x1 =>
  (if (x1.2 == 0) = true then Zn fu e else some default) >>= fun x2 =>
  (if (x1.2 == 0) = true then Fd fu x1.1 to x2 else some default) >>= fun x3 =>
  if (bif (x1.2 == 0) then (!x3) else false) = true then
    some 9
  else
    some x1.2
theorem N9 (fu : Nat) (s : Option I0) (e : C0) (to : A0) : Le (Gf fu s e to) (E9 s e to) := by
  unfold Gf E9
  repeat (first | exact Le.rfl | exact La fu _ _ | exact C14 fu _ | exact Bk fu _ _ _ | exact R0 _ | refine Le.bind ?_ (fun _ => ?_) | refine Le.ite ?_ ?_)
def Cg : Nat → C0 → Option Str
  | 0, _ => none
  | fu + 1, o0 =>
    if (bif (o0.Op != 3) then (decide (((o0.Kids).length : Int) > 0)) else false) = true then
      idx o0.Kids 0 >>= fun x1 =>
      Cg fu x1
    else
      some o0.Name
theorem A13 (fu : Nat) : (∀ (o0 : C0), Le (Cg fu o0) (E6 o0)) := by
  induction fu with
  | zero => exact fun _ => Le.none
  | succ fu ih =>
    have ih0 := ih
    refine fun o0 => ?_
    · rw [Cg, E6]
      repeat (first | exact Le.rfl | exact ih0 _ | exact R0 _ | refine Le.bind ?_ (fun _ => ?_) | refine Le.ite ?_ ?_)
theorem D14 (fu : Nat) (o0 : C0) : Le (Cg fu o0) (E6 o0) := (A13 fu) o0
def Bs (fu : Nat) (e : C0) : Option Str :=
  Cg fu e
theorem Y17 (fu : Nat) (e : C0) : Le (Bs fu e) (Ri e) := by
  unfold Bs Ri
  repeat (first | exact Le.rfl | exact D14 fu _ | exact R0 _ | refine Le.bind ?_ (fun _ => ?_) | refine Le.ite ?_ ?_)
def Dh (fu : Nat) (s : Option I0) (e : C0) : Option (A0 × Int) :=
  W9 fu s e >>= fun x1 =>
  if (x1.2 != 0) = true then
    some ((A0.mk 0 0 0 0 [] [] []), x1.2)
  else
    Bs fu e >>= fun x2 =>
    Hb fu s x2 >>= fun x3 =>
    if x3.1.fixed = true then
      some ((A0.mk 0 0 0 0 [] [] []), 15)
    else
      some (x1.1, 0)
theorem Uc (fu : Nat) (s : Option I0) (e : C0) : Le (Dh fu s e) (S9 s e) := by
  unfold Dh S9
  repeat (first | exact Le.rfl | exact La fu _ _ | exact Y17 fu _ | exact Hi fu _ _ | exact R0 _ | refine Le.bind ?_ (fun _ => ?_) | refine Le.ite ?_ ?_)
def O9 : Nat → Int → Str → (List E0) → Int → Option Int
  | 0, _, _, _, _ => none
  | fu + 1, kind, name, x1, v19 =>
    if (decide (v19 < ((x1).length : Int))) = true then
      idx x1 v19 >>= fun x2 =>
      if (bif (x2.Kind == kind) then (x2.Name == name) else false) = true then
        some v19
      else
        O9 fu kind name x1 (IntKind.i64.wrap (v19 + 1))
    else
      some (-1)
theorem Wu (fu : Nat) : (∀ (kind : Int) (name : Str) (x1 : List E0) (v19 : Int), Le (O9 fu kind name x1 v19) (Z2 kind name x1 v19)) := by
  induction fu with
  | zero => exact fun _ _ _ _ => Le.none
  | succ fu ih =>
    have ih0 := ih
    refine fun kind name x1 v19 => ?_
    · rw [O9, Z2]
      repeat (first | exact Le.rfl | exact ih0 _ _ _ _ | exact R0 _ | refine Le.bind ?_ (fun _ => ?_) | refine Le.ite ?_ ?_)
theorem Dw (fu : Nat) (kind : Int) (name : Str) (x1 : List E0) (v19 : Int) : Le (O9 fu kind name x1 v19) (Z2 kind name x1 v19) := (Wu fu) kind name x1 v19
def Qe (fu : Nat) (c : D0) (kind : Int) (name : Str) (limit : Int) : Option Int :=
  slc c.p.Decls 0 limit >>= fun x1 =>
  O9 fu kind name x1 0
theorem Mo (fu : Nat) (c : D0) (kind : Int) (name : Str) (limit : Int) : Le (Qe fu c kind name limit) (T6 c kind name limit) := by
  unfold Qe T6
  repeat (first | exact Le.rfl | exact Dw fu _ _ _ _ | exact R0 _ | refine Le.bind ?_ (fun _ => ?_) | refine Le.ite ?_ ?_)
def P9 : Nat → D0 → (Option I0) → F0 → (A0 × Int) → E0 → Int → Int → Option Int
  | 0, _, _, _, _, _, _, _ => none
  | fu + 1, c, s, x, x1, x3, x2, v52 =>
    if (decide (v52 < ((x.Args).length : Int))) = true then
      idx x.Args v52 >>= fun x4 =>
      idx x3.Params v52 >>= fun x5 =>
      F5 fu c x5.TypeV x2 >>= fun x6 =>
      Gf fu s x4 x6 >>= fun x7 =>
      if (x7 != 0) = true then
        some x7
      else
        P9 fu c s x x1 x3 x2 (IntKind.i64.wrap (v52 + 1))
    else
      F5 fu c x3.TypeV x2 >>= fun x8 =>
      Fd fu x8 x1.1 true >>= fun x9 =>
      if (!x9) = true then
        some 9
      else
        some 0
theorem Xu (fu : Nat) : (∀ (c : D0) (s : Option I0) (x : F0) (x1 : A0 × Int) (x3 : E0) (x2 : Int) (v52 : Int), Le (P9 fu c s x x1 x3 x2 v52) (A3 c s x x1 x3 x2 v52)) := by
  induction fu with
  | zero => exact fun _ _ _ _ _ _ _ => Le.none
  | succ fu ih =>
    have ih0 := ih
    refine fun c s x x1 x3 x2 v52 => ?_
    · rw [P9, A3]
      repeat (first | exact Le.rfl | exact ih0 _ _ _ _ _ _ _ | exact H6 fu _ _ _ | exact N9 fu _ _ _ | exact Bk fu _ _ _ | exact R0 _ | refine Le.bind ?_ (fun _ => ?_) | refine Le.ite ?_ ?_)
theorem Ew (fu : Nat) (c : D0) (s : Option I0) (x : F0) (x1 : A0 × Int) (x3 : E0) (x2 : Int) (v52 : Int) : Le (P9 fu c s x x1 x3 x2 v52) (A3 c s x x1 x3 x2 v52) := (Xu fu) c s x x1 x3 x2 v52
def Jj (fu : Nat) (c : D0) (s : Option I0) (x : F0) : Option Int :=
  Dh fu s x.Place >>= fun x1 =>
  if (x1.2 != 0) = true then
    some x1.2
  else
    Qe fu c 6 x.Name c.atV >>= fun x2 =>
    if (decide (x2 < 0)) = true then
      some 7
    else
      idx c.p.Decls x2 >>= fun x3 =>
      if (((x.Args).length : Int) != ((x3.Params).length : Int)) = true then
        some 2
      else
        P9 fu c s x x1 x3 x2 0
theorem Ae (fu : Nat) (c : D0) (s : Option I0) (x : F0) : Le (Jj fu c s x) (H8 c s x) := by
  unfold Jj H8
  repeat (first | exact Le.rfl | exact Uc fu _ _ | exact Mo fu _ _ _ _ | exact Ew fu _ _ _ _ _ _ _ | exact R0 _ | refine Le.bind ?_ (fun _ => ?_) | refine Le.ite ?_ ?_)
def Eh (fu : Nat) (c : D0) (s : Option I0) (x : F0) : Option Int :=
  Dh fu s x.Place >>= fun x1 =>
  if (x1.2 != 0) = true then
    some x1.2
  else
    if c.localV = true then
      some 15
    else
      Qe fu c 5 x.Name c.atV >>= fun x2 =>
      if (decide (x2 < 0)) = true then
        some 7
      else
        idx c.p.Decls x2 >>= fun x3 =>
        F5 fu c x3.TypeV x2 >>= fun x4 =>
        Fd fu x4 x1.1 false >>= fun x5 =>
        if (!x5) = true then
          some 9
        else
          some 0
theorem Sb (fu : Nat) (c : D0) (s : Option I0) (x : F0) : Le (Eh fu c s x) (O6 c s x) := by
  unfold Eh O6
  repeat (first | exact Le.rfl | exact Uc fu _ _ | exact Mo fu _ _ _ _ | exact H6 fu _ _ _ | exact Bk fu _ _ _ | exact R0 _ | refine Le.bind ?_ (fun _ => ?_) | refine Le.ite ?_ ?_)
def Kh (fu : Nat) (s : Option I0) (e : C0) : Option Int :=
  W9 fu s e >>= fun x1 =>
  if (bif (x1.2 == 0) then (x1.1.Kind != 0) else false) = true then
    some 9
  else
    some x1.2
theorem Rg (fu : Nat) (s : Option I0) (e : C0) : Le (Kh fu s e) (T8 s e) := by
  unfold Kh T8
  repeat (first | exact Le.rfl | exact La fu _ _ | exact R0 _ | refine Le.bind ?_ (fun _ => ?_) | refine Le.ite ?_ ?_)
def Lm (fu : Nat) (s : Option I0) (name : Str) : Option Bool :=
  Hb fu s name >>= fun x1 =>
  some x1.2
theorem Sg (fu : Nat) (s : Option I0) (name : Str) : Le (Lm fu s name) (Rc s name) := by
  unfold Lm Rc
  repeat (first | exact Le.rfl | exact Hi fu _ _ | exact R0 _ | refine Le.bind ?_ (fun _ => ?_) | refine Le.ite ?_ ?_)
mutual
def F4 : Nat → D0 → (Option I0) → (List F0) → Bool → Option Int
  | 0, _, _, _, _ => none
  | fu + 1, c, s, l, top =>
    C9 fu c s l top 0
def C9 : Nat → D0 → (Option I0) → (List F0) → Bool → Int → Option Int
  | 0, _, _, _, _, _ => none
  | fu + 1, c, s, l, top, v14 =>
    if (decide (v14 < ((l).length : Int))) = true then
      idx l v14 >>= fun x1 =>
      Re fu c s x1 (bif top then (v14 == (IntKind.i64.wrap (((l).length : Int) - 1))) else false) >>= fun x2 =>
      if (x2 != 0) = true then
        some x2
      else
        C9 fu c s l top (IntKind.i64.wrap (v14 + 1))
    else
      some 0
def Re : Nat → D0 → (Option I0) → F0 → Bool → Option Int
  | 0, _, _, _, _ => none
  | fu + 1, c, s, x, last =>
    if (x.Verb == 0) = true then
      Dh fu s x.Place >>= fun x1 =>
      if (x1.2 != 0) = true then
        some x1.2
      else
        Gf fu s x.Value x1.1 >>= fun x2 =>
        some x2
    else
      if (x.Verb == 1) = true then
        Jj fu c s x >>= fun x3 =>
        some x3
      else
        if (x.Verb == 2) = true then
          Eh fu c s x >>= fun x4 =>
          some x4
        else
          if (x.Verb == 3) = true then
            W9 fu s x.Value >>= fun x5 =>
            (if (x5.2 == 0) = true then Wd fu x5.1 else some default) >>= fun x6 =>
            if (bif (x5.2 == 0) then (!x6) else false) = true then
              some 9
            else
              some x5.2
          else
            if (x.Verb == 5) = true then
              Kh fu s x.Value >>= fun x7 =>
              if (x7 != 0) = true then
                some x7
              else
                F4 fu c s x.Then false >>= fun x10 =>
                if (x10 != 0) = true then
                  some x10
                else
                  F4 fu c s x.Else false >>= fun x11 =>
                  some x11
            else
              if (x.Verb == 6) = true then
                Kh fu s x.Value >>= fun x8 =>
                if (x8 != 0) = true then
                  some x8
                else
                  F4 fu c s x.Then false >>= fun x12 =>
                  some x12
              else
                if (x.Verb == 7) = true then
                  Se fu c s x >>= fun x9 =>
                  some x9
                else
                  if (x.Verb == 8) = true then
                    if (!last) = true then
                      some 15
                    else
                      some 0
                  else
                    some 0
def Se : Nat → D0 → (Option I0) → F0 → Option Int
  | 0, _, _, _ => none
  | fu + 1, c, s, x =>
    some (mgt x.Name c.names) >>= fun x1 =>
    (if (!(x1.getD ebool.zero)) = true then Lm fu s x.Name else some default) >>= fun x2 =>
    if (bif (x1.getD ebool.zero) then true else x2) = true then
      some 8
    else
      Gb fu s >>= fun x3 =>
      U3 fu x.Low x.High >>= fun x4 =>
      some (some (I0.mk x3.2 (mpt x.Name (J0.mk x4 true) x3.1))) >>= fun x5 =>
      F4 fu c x5 x.Then false >>= fun x6 =>
      some x6
end
theorem Nc (fu : Nat) : (∀ (c : D0) (s : Option I0) (l : List F0) (top : Bool), Le (F4 fu c s l top) (U1 c s l top)) ∧ (∀ (c : D0) (s : Option I0) (l : List F0) (top : Bool) (v14 : Int), Le (C9 fu c s l top v14) (H3 c s l top v14)) ∧ (∀ (c : D0) (s : Option I0) (x : F0) (last : Bool), Le (Re fu c s x last) (V2 c s x last)) ∧ (∀ (c : D0) (s : Option I0) (x : F0), Le (Se fu c s x) (I8 c s x)) := by
  induction fu with
  | zero => exact ⟨fun _ _ _ _ => Le.none, fun _ _ _ _ _ => Le.none, fun _ _ _ _ => Le.none, fun _ _ _ => Le.none⟩
  | succ fu ih =>
    obtain ⟨ih0, ih1, ih2, ih3⟩ := ih
    refine ⟨fun c s l top => ?_, fun c s l top v14 => ?_, fun c s x last => ?_, fun c s x => ?_⟩
    · rw [F4, U1]
      repeat (first | exact Le.rfl | exact ih0 _ _ _ _ | exact ih1 _ _ _ _ _ | exact ih2 _ _ _ _ | exact ih3 _ _ _ | exact Uc fu _ _ | exact N9 fu _ _ _ | exact Ae fu _ _ _ | exact Sb fu _ _ _ | exact La fu _ _ | exact Tc fu _ | exact Rg fu _ _ | exact Sg fu _ _ | exact L8 fu _ | exact Z5 fu _ _ | exact R0 _ | refine Le.bind ?_ (fun _ => ?_) | refine Le.ite ?_ ?_)
    · rw [C9, H3]
      repeat (first | exact Le.rfl | exact ih0 _ _ _ _ | exact ih1 _ _ _ _ _ | exact ih2 _ _ _ _ | exact ih3 _ _ _ | exact Uc fu _ _ | exact N9 fu _ _ _ | exact Ae fu _ _ _ | exact Sb fu _ _ _ | exact La fu _ _ | exact Tc fu _ | exact Rg fu _ _ | exact Sg fu _ _ | exact L8 fu _ | exact Z5 fu _ _ | exact R0 _ | refine Le.bind ?_ (fun _ => ?_) | refine Le.ite ?_ ?_)
    · rw [Re, V2]
      repeat (first | exact Le.rfl | exact ih0 _ _ _ _ | exact ih1 _ _ _ _ _ | exact ih2 _ _ _ _ | exact ih3 _ _ _ | exact Uc fu _ _ | exact N9 fu _ _ _ | exact Ae fu _ _ _ | exact Sb fu _ _ _ | exact La fu _ _ | exact Tc fu _ | exact Rg fu _ _ | exact Sg fu _ _ | exact L8 fu _ | exact Z5 fu _ _ | exact R0 _ | refine Le.bind ?_ (fun _ => ?_) | refine Le.ite ?_ ?_)
    · rw [Se, I8]
      repeat (first | exact Le.rfl | exact ih0 _ _ _ _ | exact ih1 _ _ _ _ _ | exact ih2 _ _ _ _ | exact ih3 _ _ _ | exact Uc fu _ _ | exact N9 fu _ _ _ | exact Ae fu _ _ _ | exact Sb fu _ _ _ | exact La fu _ _ | exact Tc fu _ | exact Rg fu _ _ | exact Sg fu _ _ | exact L8 fu _ | exact Z5 fu _ _ | exact R0 _ | refine Le.bind ?_ (fun _ => ?_) | refine Le.ite ?_ ?_)
theorem Qh (fu : Nat) (c : D0) (s : Option I0) (l : List F0) (top : Bool) : Le (F4 fu c s l top) (U1 c s l top) := (Nc fu).1 c s l top
theorem V1b (fu : Nat) (c : D0) (s : Option I0) (l : List F0) (top : Bool) (v14 : Int) : Le (C9 fu c s l top v14) (H3 c s l top v14) := (Nc fu).2.1 c s l top v14
theorem F1f (fu : Nat) (c : D0) (s : Option I0) (x : F0) (last : Bool) : Le (Re fu c s x last) (V2 c s x last) := (Nc fu).2.2.1 c s x last
theorem G1f (fu : Nat) (c : D0) (s : Option I0) (x : F0) : Le (Se fu c s x) (I8 c s x) := (Nc fu).2.2.2 c s x
mutual
def S7 : Nat → D0 → Int → A0 → E0 → (List (Str × J0)) → (List (Str × J0) × Option I0) → Int → Option Int
  | 0, _, _, _, _, _, _, _ => none
  | fu + 1, c, i, result, x1, m21, x2, v34 =>
    if (decide (v34 < (([x1.Params, x1.Vars]).length : Int))) = true then
      idx [x1.Params, x1.Vars] v34 >>= fun x3 =>
      T7 fu c i result x1 m21 x2 v34 x3 0
    else
      some (D0.mk c.p i true c.names) >>= fun x4 =>
      some (some (I0.mk x2.2 m21)) >>= fun x5 =>
      F4 fu x4 x5 x1.Body false >>= fun x6 =>
      if (x6 != 0) = true then
        some x6
      else
        Gf fu x5 x1.Value result >>= fun x7 =>
        some x7
def T7 : Nat → D0 → Int → A0 → E0 → (List (Str × J0)) → (List (Str × J0) × Option I0) → Int → (List E0) → Int → Option Int
  | 0, _, _, _, _, _, _, _, _, _ => none
  | fu + 1, c, i, result, x1, m2, x2, v341, x3, v40 =>
    if (decide (v40 < ((x3).length : Int))) = true then
      idx x3 v40 >>= fun x8 =>
      Z9 fu c x8.TypeV i >>= fun x9 =>
      if (x9.2 != 0) = true then
        some x9.2
      else
        T7 fu c i result x1 (mpt x8.Name (J0.mk x9.1 false) m2) x2 v341 x3 (IntKind.i64.wrap (v40 + 1))
    else
      S7 fu c i result x1 m2 x2 (IntKind.i64.wrap (v341 + 1))
end
theorem Oi (fu : Nat) : (∀ (c : D0) (i : Int) (result : A0) (x1 : E0) (m21 : List (Str × J0)) (x2 : List (Str × J0) × Option I0) (v34 : Int), Le (S7 fu c i result x1 m21 x2 v34) (Q1 c i result x1 m21 x2 v34)) ∧ (∀ (c : D0) (i : Int) (result : A0) (x1 : E0) (m2 : List (Str × J0)) (x2 : List (Str × J0) × Option I0) (v341 : Int) (x3 : List E0) (v40 : Int), Le (T7 fu c i result x1 m2 x2 v341 x3 v40) (Q2 c i result x1 m2 x2 v341 x3 v40)) := by
  induction fu with
  | zero => exact ⟨fun _ _ _ _ _ _ _ => Le.none, fun _ _ _ _ _ _ _ _ _ => Le.none⟩
  | succ fu ih =>
    obtain ⟨ih0, ih1⟩ := ih
    refine ⟨fun c i result x1 m21 x2 v34 => ?_, fun c i result x1 m2 x2 v341 x3 v40 => ?_⟩
    · rw [S7, Q1]
      repeat (first | exact Le.rfl | exact ih0 _ _ _ _ _ _ _ | exact ih1 _ _ _ _ _ _ _ _ _ | exact Qh fu _ _ _ _ | exact N9 fu _ _ _ | exact Mc fu _ _ _ | exact R0 _ | refine Le.bind ?_ (fun _ => ?_) | refine Le.ite ?_ ?_)
    · rw [T7, Q2]
      repeat (first | exact Le.rfl | exact ih0 _ _ _ _ _ _ _ | exact ih1 _ _ _ _ _ _ _ _ _ | exact Qh fu _ _ _ _ | exact N9 fu _ _ _ | exact Mc fu _ _ _ | exact R0 _ | refine Le.bind ?_ (fun _ => ?_) | refine Le.ite ?_ ?_)
theorem Cs (fu : Nat) (c : D0) (i : Int) (result : A0) (x1 : E0) (m21 : List (Str × J0)) (x2 : List (Str × J0) × Option I0) (v34 : Int) : Le (S7 fu c i result x1 m21 x2 v34) (Q1 c i result x1 m21 x2 v34) := (Oi fu).1 c i result x1 m21 x2 v34
theorem E19 (fu : Nat) (c : D0) (i : Int) (result : A0) (x1 : E0) (m2 : List (Str × J0)) (x2 : List (Str × J0) × Option I0) (v341 : Int) (x3 : List E0) (v40 : Int) : Le (T7 fu c i result x1 m2 x2 v341 x3 v40) (Q2 c i result x1 m2 x2 v341 x3 v40) := (Oi fu).2 c i result x1 m2 x2 v341 x3 v40
def Lg (fu : Nat) (c : D0) (i : Int) (result : A0) : Option Int :=
  idx c.p.Decls i >>= fun x1 =>
  Gb fu none >>= fun x2 =>
  S7 fu c i result x1 x2.1 x2 0
theorem Yu (fu : Nat) (c : D0) (i : Int) (result : A0) : Le (Lg fu c i result) (C6 c i result) := by
  unfold Lg C6
  repeat (first | exact Le.rfl | exact L8 fu _ | exact Cs fu _ _ _ _ _ _ _ | exact R0 _ | refine Le.bind ?_ (fun _ => ?_) | refine Le.ite ?_ ?_)
def Kj (fu : Nat) (c : D0) (i : Int) : Option Int :=
  idx c.p.Decls i >>= fun x1 =>
  Z9 fu c x1.TypeV i >>= fun x2 =>
  if (x2.2 != 0) = true then
    some x2.2
  else
    if (x1.Kind == 5) = true then
      Wd fu x2.1 >>= fun x3 =>
      if (!x3) = true then
        some 9
      else
        Aa fu c i false >>= fun x4 =>
        Gf fu x4 x1.Value x2.1 >>= fun x5 =>
        some x5
    else
      if (x1.Kind == 6) = true then
        Lg fu c i x2.1 >>= fun x6 =>
        some x6
      else
        some 0
theorem Ty (fu : Nat) (c : D0) (i : Int) : Le (Kj fu c i) (J8 c i) := by
  unfold Kj J8
  repeat (first | exact Le.rfl | exact Mc fu _ _ _ | exact Tc fu _ | exact Ch fu _ _ _ | exact N9 fu _ _ _ | exact Yu fu _ _ _ | exact R0 _ | refine Le.bind ?_ (fun _ => ?_) | refine Le.ite ?_ ?_)
mutual
def Rn : Nat → A0 → Option Bool
  | 0, _ => none
  | fu + 1, t =>
    (if (!(t.Kind == 4)) = true then X5 fu t.Of else some default) >>= fun x1 =>
    some (bif (t.Kind == 4) then true else x1)
def X5 : Nat → (List A0) → Option Bool
  | 0, _ => none
  | fu + 1, s =>
    Z6 fu s >>= fun x1 =>
    some (decide (x1 ≥ 0))
def Z6 : Nat → (List A0) → Option Int
  | 0, _ => none
  | fu + 1, s =>
    E4 fu s 0
def E4 : Nat → (List A0) → Int → Option Int
  | 0, _, _ => none
  | fu + 1, s, v8 =>
    if (decide (v8 < ((s).length : Int))) = true then
      idx s v8 >>= fun x1 =>
      Rn fu x1 >>= fun x2 =>
      if x2 = true then
        some v8
      else
        E4 fu s (IntKind.i64.wrap (v8 + 1))
    else
      some (-1)
end
theorem Oo (fu : Nat) : (∀ (t : A0), Le (Rn fu t) (Zc t)) ∧ (∀ (s : List A0), Le (X5 fu s) (P2 s)) ∧ (∀ (s : List A0), Le (Z6 fu s) (B3 s)) ∧ (∀ (s : List A0) (v8 : Int), Le (E4 fu s v8) (N1 s v8)) := by
  induction fu with
  | zero => exact ⟨fun _ => Le.none, fun _ => Le.none, fun _ => Le.none, fun _ _ => Le.none⟩
  | succ fu ih =>
    obtain ⟨ih0, ih1, ih2, ih3⟩ := ih
    refine ⟨fun t => ?_, fun s => ?_, fun s => ?_, fun s v8 => ?_⟩
    · rw [Rn, Zc]
      repeat (first | exact Le.rfl | exact ih0 _ | exact ih1 _ | exact ih2 _ | exact ih3 _ _ | exact R0 _ | refine Le.bind ?_ (fun _ => ?_) | refine Le.ite ?_ ?_)
    · rw [X5, P2]
      repeat (first | exact Le.rfl | exact ih0 _ | exact ih1 _ | exact ih2 _ | exact ih3 _ _ | exact R0 _ | refine Le.bind ?_ (fun _ => ?_) | refine Le.ite ?_ ?_)
    · rw [Z6, B3]
      repeat (first | exact Le.rfl | exact ih0 _ | exact ih1 _ | exact ih2 _ | exact ih3 _ _ | exact R0 _ | refine Le.bind ?_ (fun _ => ?_) | refine Le.ite ?_ ?_)
    · rw [E4, N1]
      repeat (first | exact Le.rfl | exact ih0 _ | exact ih1 _ | exact ih2 _ | exact ih3 _ _ | exact R0 _ | refine Le.bind ?_ (fun _ => ?_) | refine Le.ite ?_ ?_)
theorem R1c (fu : Nat) (t : A0) : Le (Rn fu t) (Zc t) := (Oo fu).1 t
theorem V11 (fu : Nat) (s : List A0) : Le (X5 fu s) (P2 s) := (Oo fu).2.1 s
theorem E14 (fu : Nat) (s : List A0) : Le (Z6 fu s) (B3 s) := (Oo fu).2.2.1 s
theorem W11 (fu : Nat) (s : List A0) (v8 : Int) : Le (E4 fu s v8) (N1 s v8) := (Oo fu).2.2.2 s v8
def Vx (fu : Nat) (t : A0) : Option Int :=
  Rn fu t >>= fun x1 =>
  if x1 = true then
    some 7
  else
    Hk fu t >>= fun x2 =>
    if x2 = true then
      some 8
    else
      Ph fu t >>= fun x3 =>
      if (decide (x3 > 32)) = true then
        some 4
      else
        some 0
theorem S1c (fu : Nat) (t : A0) : Le (Vx fu t) (Tn t) := by
  unfold Vx Tn
  repeat (first | exact Le.rfl | exact R1c fu _ | exact Y12 fu _ | exact Z12 fu _ | exact R0 _ | refine Le.bind ?_ (fun _ => ?_) | refine Le.ite ?_ ?_)
def Wx (fu : Nat) (t : A0) : Option Int :=
  Yk fu t >>= fun x1 =>
  if (x1 != 0) = true then
    some x1
  else
    Vx fu t >>= fun x2 =>
    some x2
theorem T1c (fu : Nat) (t : A0) : Le (Wx fu t) (Gl t) := by
  unfold Wx Gl
  repeat (first | exact Le.rfl | exact Kv fu _ | exact S1c fu _ | exact R0 _ | refine Le.bind ?_ (fun _ => ?_) | refine Le.ite ?_ ?_)
def Qo (fu : Nat) (s : Str) : Option Str :=
  M17 s >>= fun x1 =>
  some x1
theorem F19 (fu : Nat) (s : Str) : Le (Qo fu s) (Rf s) := by
  unfold Qo Rf
  repeat (first | exact Le.rfl | exact R0 _ | refine Le.bind ?_ (fun _ => ?_) | refine Le.ite ?_ ?_)
def Fn (fu : Nat) (path : Str) (a1 : Int) (x : A0) (s : List P0) : Option (Bool × List P0) :=
  if (x.Kind == 0) = true then
    Qo fu path >>= fun x1 =>
    if (decide ((s.length + 1) * 41 ≤ 140737488355328)) = true then
      some (true, (s ++ [(P0.mk x1 true 0 1)]))
    else none
  else
    if (x.Kind == 1) = true then
      Qo fu path >>= fun x2 =>
      if (decide ((s.length + 1) * 41 ≤ 140737488355328)) = true then
        some (true, (s ++ [(P0.mk x2 false x.Low x.High)]))
      else none
    else
      some (true, s)
theorem Mm (fu : Nat) (path : Str) (a1 : Int) (x : A0) (s : List P0) : Le (Fn fu path a1 x s) (Sa path a1 x s) := by
  unfold Fn Sa
  repeat (first | exact Le.rfl | exact F19 fu _ | exact R0 _ | refine Le.bind ?_ (fun _ => ?_) | refine Le.ite ?_ ?_)
mutual
def Jf : Nat → Str → A0 → Int → (List P0) → Option (Bool × Int × List P0)
  | 0, _, _, _, _ => none
  | fu + 1, path, t, s, s1 =>
    Fn fu path s t s1 >>= fun x1 =>
    if (!x1.1) = true then
      some (false, s, x1.2)
    else
      if (t.Kind == 2) = true then
        Te fu path t s x1.2 0
      else
        if (t.Kind == 3) = true then
          Ue fu path t s x1.2 0
        else
          some (true, (IntKind.i64.wrap (s + 1)), x1.2)
def Te : Nat → Str → A0 → Int → (List P0) → Int → Option (Bool × Int × List P0)
  | 0, _, _, _, _, _ => none
  | fu + 1, path, t, o1, o3, v25 =>
    if (decide (v25 < t.Size)) = true then
      if (decide (path.length + 1 ≤ maxLen)) = true then
        Y18 v25 >>= fun x2 =>
        if (decide ((path ++ [46]).length + x2.length ≤ maxLen)) = true then
          idx t.Of 0 >>= fun x3 =>
          Jf fu ((path ++ [46]) ++ x2) x3 o1 o3 >>= fun x6 =>
          if (!x6.1) = true then
            some (false, x6.2.1, x6.2.2)
          else
            Te fu path t x6.2.1 x6.2.2 (IntKind.i64.wrap (v25 + 1))
        else none
      else none
    else
      some (true, o1, o3)
def Ue : Nat → Str → A0 → Int → (List P0) → Int → Option (Bool × Int × List P0)
  | 0, _, _, _, _, _ => none
  | fu + 1, path, t, o11, o31, v46 =>
    if (decide (v46 < ((t.Of).length : Int))) = true then
      idx t.Of v46 >>= fun x4 =>
      if (decide (path.length + 1 ≤ maxLen)) = true then
        idx t.Names v46 >>= fun x5 =>
        if (decide ((path ++ [46]).length + x5.length ≤ maxLen)) = true then
          Jf fu ((path ++ [46]) ++ x5) x4 o11 o31 >>= fun x7 =>
          if (!x7.1) = true then
            some (false, x7.2.1, x7.2.2)
          else
            Ue fu path t x7.2.1 x7.2.2 (IntKind.i64.wrap (v46 + 1))
        else none
      else none
    else
      some (true, o11, o31)
end
theorem Ao (fu : Nat) : (∀ (path : Str) (t : A0) (s : Int) (s1 : List P0), Le (Jf fu path t s s1) (W5 path t s s1)) ∧ (∀ (path : Str) (t : A0) (o1 : Int) (o3 : List P0) (v25 : Int), Le (Te fu path t o1 o3 v25) (Q5 path t o1 o3 v25)) ∧ (∀ (path : Str) (t : A0) (o11 : Int) (o31 : List P0) (v46 : Int), Le (Ue fu path t o11 o31 v46) (P5 path t o11 o31 v46)) := by
  induction fu with
  | zero => exact ⟨fun _ _ _ _ => Le.none, fun _ _ _ _ _ => Le.none, fun _ _ _ _ _ => Le.none⟩
  | succ fu ih =>
    obtain ⟨ih0, ih1, ih2⟩ := ih
    refine ⟨fun path t s s1 => ?_, fun path t o1 o3 v25 => ?_, fun path t o11 o31 v46 => ?_⟩
    · rw [Jf, W5]
      repeat (first | exact Le.rfl | exact ih0 _ _ _ _ | exact ih1 _ _ _ _ _ | exact ih2 _ _ _ _ _ | exact Mm fu _ _ _ _ | exact R0 _ | refine Le.bind ?_ (fun _ => ?_) | refine Le.ite ?_ ?_)
    · rw [Te, Q5]
      repeat (first | exact Le.rfl | exact ih0 _ _ _ _ | exact ih1 _ _ _ _ _ | exact ih2 _ _ _ _ _ | exact Mm fu _ _ _ _ | exact R0 _ | refine Le.bind ?_ (fun _ => ?_) | refine Le.ite ?_ ?_)
    · rw [Ue, P5]
      repeat (first | exact Le.rfl | exact ih0 _ _ _ _ | exact ih1 _ _ _ _ _ | exact ih2 _ _ _ _ _ | exact Mm fu _ _ _ _ | exact R0 _ | refine Le.bind ?_ (fun _ => ?_) | refine Le.ite ?_ ?_)
theorem O16 (fu : Nat) (path : Str) (t : A0) (s : Int) (s1 : List P0) : Le (Jf fu path t s s1) (W5 path t s s1) := (Ao fu).1 path t s s1
theorem B1k (fu : Nat) (path : Str) (t : A0) (o1 : Int) (o3 : List P0) (v25 : Int) : Le (Te fu path t o1 o3 v25) (Q5 path t o1 o3 v25) := (Ao fu).2.1 path t o1 o3 v25
theorem C1k (fu : Nat) (path : Str) (t : A0) (o11 : Int) (o31 : List P0) (v46 : Int) : Le (Ue fu path t o11 o31 v46) (P5 path t o11 o31 v46) := (Ao fu).2.2 path t o11 o31 v46
def Yt (fu : Nat) (t : A0) (s : List P0) : Option (List P0) :=
  Jf fu [] t 0 s >>= fun x1 =>
  some x1.2.2
theorem G19 (fu : Nat) (t : A0) (s : List P0) : Le (Yt fu t s) (Gk t s) := by
  unfold Yt Gk
  repeat (first | exact Le.rfl | exact O16 fu _ _ _ _ | exact R0 _ | refine Le.bind ?_ (fun _ => ?_) | refine Le.ite ?_ ?_)
def Zt (fu : Nat) (t : A0) : Option (List P0 × Int) :=
  Wx fu t >>= fun x1 =>
  if (x1 != 0) = true then
    some ([], x1)
  else
    Yt fu t [] >>= fun x2 =>
    some (x2, 0)
theorem Ds (fu : Nat) (t : A0) : Le (Zt fu t) (Oh t) := by
  unfold Zt Oh
  repeat (first | exact Le.rfl | exact T1c fu _ | exact G19 fu _ _ | exact R0 _ | refine Le.bind ?_ (fun _ => ?_) | refine Le.ite ?_ ?_)
def Yh (fu : Nat) (a : Int) (b : Int) : Option Int :=
  some (min (IntKind.i64.wrap (a * b)) 1073741824)
theorem Al (fu : Nat) (a : Int) (b : Int) : Le (Yh fu a b) (Ke a b) := by
  unfold Yh Ke
  repeat (first | exact Le.rfl | exact R0 _ | refine Le.bind ?_ (fun _ => ?_) | refine Le.ite ?_ ?_)
def Lj (fu : Nat) (a : Int) (b : Int) : Option Int :=
  some (min (IntKind.i64.wrap (a + b)) 1073741824)
theorem Gy (fu : Nat) (a : Int) (b : Int) : Le (Lj fu a b) (Jg a b) := by
  unfold Lj Jg
  repeat (first | exact Le.rfl | exact R0 _ | refine Le.bind ?_ (fun _ => ?_) | refine Le.ite ?_ ?_)
def Tg (fu : Nat) (a : K0) (b : K0) : Option K0 :=
  Lj fu a.steps b.steps >>= fun x1 =>
  Lj fu a.outputs b.outputs >>= fun x2 =>
  some (K0.mk x1 x2)
theorem Ck (fu : Nat) (a : K0) (b : K0) : Le (Tg fu a b) (T9 a b) := by
  unfold Tg T9
  repeat (first | exact Le.rfl | exact Gy fu _ _ | exact R0 _ | refine Le.bind ?_ (fun _ => ?_) | refine Le.ite ?_ ?_)
def Dk (fu : Nat) (a : K0) (b : K0) : Option K0 :=
  some (K0.mk (max a.steps b.steps) (max a.outputs b.outputs))
theorem Mj (fu : Nat) (a : K0) (b : K0) : Le (Dk fu a b) (Vd a b) := by
  unfold Dk Vd
  repeat (first | exact Le.rfl | exact R0 _ | refine Le.bind ?_ (fun _ => ?_) | refine Le.ite ?_ ?_)
def Bl (fu : Nat) (n : Int) (body : K0) : Option K0 :=
  Lj fu 1 body.steps >>= fun x1 =>
  Yh fu n x1 >>= fun x2 =>
  Yh fu n body.outputs >>= fun x3 =>
  some (K0.mk x2 x3)
theorem Bo (fu : Nat) (n : Int) (body : K0) : Le (Bl fu n body) (Ld n body) := by
  unfold Bl Ld
  repeat (first | exact Le.rfl | exact Gy fu _ _ | exact Al fu _ _ | exact R0 _ | refine Le.bind ?_ (fun _ => ?_) | refine Le.ite ?_ ?_)
mutual
def G4 : Nat → (List F0) → (List (Str × K0)) → Option K0
  | 0, _, _ => none
  | fu + 1, l, m =>
    D9 fu l m (K0.mk 0 0) 0
def D9 : Nat → (List F0) → (List (Str × K0)) → K0 → Int → Option K0
  | 0, _, _, _, _ => none
  | fu + 1, l, m, o3, v11 =>
    if (decide (v11 < ((l).length : Int))) = true then
      idx l v11 >>= fun x1 =>
      Tg fu o3 (K0.mk 1 0) >>= fun x2 =>
      Ve fu x1 m >>= fun x3 =>
      Tg fu x2 x3 >>= fun x4 =>
      D9 fu l m x4 (IntKind.i64.wrap (v11 + 1))
    else
      some o3
def Ve : Nat → F0 → (List (Str × K0)) → Option K0
  | 0, _, _ => none
  | fu + 1, x, m =>
    if (x.Verb == 3) = true then
      some (K0.mk 0 1)
    else
      if (x.Verb == 1) = true then
        some (mgt x.Name m) >>= fun x1 =>
        some (x1.getD K0.zero)
      else
        if (x.Verb == 5) = true then
          G4 fu x.Then m >>= fun x2 =>
          G4 fu x.Else m >>= fun x3 =>
          Dk fu x2 x3 >>= fun x4 =>
          some x4
        else
          if (x.Verb == 6) = true then
            G4 fu x.Then m >>= fun x5 =>
            Bl fu x.NV x5 >>= fun x6 =>
            some x6
          else
            if (x.Verb == 7) = true then
              G4 fu x.Then m >>= fun x7 =>
              Bl fu (IntKind.i64.wrap ((IntKind.i64.wrap (x.High - x.Low)) + 1)) x7 >>= fun x8 =>
              some x8
            else
              some (K0.mk 0 0)
end
theorem Fh (fu : Nat) : (∀ (l : List F0) (m : List (Str × K0)), Le (G4 fu l m) (Y1 l m)) ∧ (∀ (l : List F0) (m : List (Str × K0)) (o3 : K0) (v11 : Int), Le (D9 fu l m o3 v11) (I3 l m o3 v11)) ∧ (∀ (x : F0) (m : List (Str × K0)), Le (Ve fu x m) (U6 x m)) := by
  induction fu with
  | zero => exact ⟨fun _ _ => Le.none, fun _ _ _ _ => Le.none, fun _ _ => Le.none⟩
  | succ fu ih =>
    obtain ⟨ih0, ih1, ih2⟩ := ih
    refine ⟨fun l m => ?_, fun l m o3 v11 => ?_, fun x m => ?_⟩
    · rw [G4, Y1]
      repeat (first | exact Le.rfl | exact ih0 _ _ | exact ih1 _ _ _ _ | exact ih2 _ _ | exact Ck fu _ _ | exact Mj fu _ _ | exact Bo fu _ _ | exact R0 _ | refine Le.bind ?_ (fun _ => ?_) | refine Le.ite ?_ ?_)
    · rw [D9, I3]
      repeat (first | exact Le.rfl | exact ih0 _ _ | exact ih1 _ _ _ _ | exact ih2 _ _ | exact Ck fu _ _ | exact Mj fu _ _ | exact Bo fu _ _ | exact R0 _ | refine Le.bind ?_ (fun _ => ?_) | refine Le.ite ?_ ?_)
    · rw [Ve, U6]
      repeat (first | exact Le.rfl | exact ih0 _ _ | exact ih1 _ _ _ _ | exact ih2 _ _ | exact Ck fu _ _ | exact Mj fu _ _ | exact Bo fu _ _ | exact R0 _ | refine Le.bind ?_ (fun _ => ?_) | refine Le.ite ?_ ?_)
theorem Xx (fu : Nat) (l : List F0) (m : List (Str × K0)) : Le (G4 fu l m) (Y1 l m) := (Fh fu).1 l m
theorem W1b (fu : Nat) (l : List F0) (m : List (Str × K0)) (o3 : K0) (v11 : Int) : Le (D9 fu l m o3 v11) (I3 l m o3 v11) := (Fh fu).2.1 l m o3 v11
theorem H1f (fu : Nat) (x : F0) (m : List (Str × K0)) : Le (Ve fu x m) (U6 x m) := (Fh fu).2.2 x m
def Ka : Nat → N0 → (List (Str × K0)) → Int → Option K0
  | 0, _, _, _ => none
  | fu + 1, p, m2, v11 =>
    if (decide (v11 < ((p.Decls).length : Int))) = true then
      idx p.Decls v11 >>= fun x1 =>
      if (x1.Kind == 6) = true then
        G4 fu x1.Body m2 >>= fun x2 =>
        Ka fu p (mpt x1.Name x2 m2) (IntKind.i64.wrap (v11 + 1))
      else
        Ka fu p m2 (IntKind.i64.wrap (v11 + 1))
    else
      G4 fu p.Body m2 >>= fun x3 =>
      some x3
theorem Vz (fu : Nat) : (∀ (p : N0) (m2 : List (Str × K0)) (v11 : Int), Le (Ka fu p m2 v11) (C4 p m2 v11)) := by
  induction fu with
  | zero => exact fun _ _ _ => Le.none
  | succ fu ih =>
    have ih0 := ih
    refine fun p m2 v11 => ?_
    · rw [Ka, C4]
      repeat (first | exact Le.rfl | exact ih0 _ _ _ | exact Xx fu _ _ | exact R0 _ | refine Le.bind ?_ (fun _ => ?_) | refine Le.ite ?_ ?_)
theorem D10 (fu : Nat) (p : N0) (m2 : List (Str × K0)) (v11 : Int) : Le (Ka fu p m2 v11) (C4 p m2 v11) := (Vz fu) p m2 v11
def Sj (fu : Nat) (p : N0) : Option K0 :=
  Ka fu p [] 0
theorem Ii (fu : Nat) (p : N0) : Le (Sj fu p) (Dc p) := by
  unfold Sj Dc
  repeat (first | exact Le.rfl | exact D10 fu _ _ _ | exact R0 _ | refine Le.bind ?_ (fun _ => ?_) | refine Le.ite ?_ ?_)
mutual
def Z4 : Nat → D0 → (List (Int × Int)) → Int → Int → Int → Option Int
  | 0, _, _, _, _, _ => none
  | fu + 1, c, m0, scalars, hatches1, v23 =>
    if (decide (v23 < ((c.p.Decls).length : Int))) = true then
      idx c.p.Decls v23 >>= fun x1 =>
      some (Ym x1.Kind m0) >>= fun x2 =>
      if (x1.Kind == 5) = true then
        N8 fu c m0 x1 scalars (IntKind.i64.wrap (hatches1 + 1)) v23 x2 v23
      else
        N8 fu c m0 x1 scalars hatches1 v23 x2 v23
    else
      Sj fu c.p >>= fun x5 =>
      if (decide (scalars > 64)) = true then
        if (decide (scalars > 64)) = true then
          some 4
        else
          some 0
      else
        if (decide (hatches1 > 8)) = true then
          if (decide (hatches1 > 8)) = true then
            some 4
          else
            some 0
        else
          some (Ym 1 m0) >>= fun x6 =>
          if (decide ((x6.getD ei64.zero) > 4096)) = true then
            if (decide ((x6.getD ei64.zero) > 4096)) = true then
              some 4
            else
              some 0
          else
            some (Ym 2 m0) >>= fun x7 =>
            if (decide ((x7.getD ei64.zero) > 4096)) = true then
              if (decide ((x7.getD ei64.zero) > 4096)) = true then
                some 4
              else
                some 0
            else
              some (Ym 3 m0) >>= fun x8 =>
              if (decide ((x8.getD ei64.zero) > 256)) = true then
                if (decide ((x8.getD ei64.zero) > 256)) = true then
                  some 4
                else
                  some 0
              else
                if (decide (x5.steps > 4096)) = true then
                  if (decide (x5.steps > 4096)) = true then
                    some 4
                  else
                    some 0
                else
                  if (decide (x5.outputs > 8)) = true then
                    some 4
                  else
                    some 0
def N8 : Nat → D0 → (List (Int × Int)) → E0 → Int → Int → Int → (Option Int) → Int → Option Int
  | 0, _, _, _, _, _, _, _, _ => none
  | fu + 1, c, m01, x1, scalars1, hatches, i, x2, v231 =>
    if (bif (!x2.isSome) then (x1.Kind != 4) else false) = true then
      Z4 fu c m01 scalars1 hatches (IntKind.i64.wrap (v231 + 1))
    else
      F5 fu c x1.TypeV i >>= fun x3 =>
      Zt fu x3 >>= fun x4 =>
      J6 fu c m01 x1 (IntKind.i64.wrap (scalars1 + ((x4.1).length : Int))) hatches (x2.getD ei64.zero) x2 v231 x4 0
def J6 : Nat → D0 → (List (Int × Int)) → E0 → Int → Int → Int → (Option Int) → Int → (List P0 × Int) → Int → Option Int
  | 0, _, _, _, _, _, _, _, _, _, _ => none
  | fu + 1, c, m02, x1, scalars2, hatches, n, x2, v231, x4, v62 =>
    if (decide (v62 < ((x4.1).length : Int))) = true then
      idx x4.1 v62 >>= fun x9 =>
      if x2.isSome = true then
        Yh fu n (IntKind.i64.wrap ((IntKind.i64.wrap (x9.High - x9.Low)) + 1)) >>= fun x10 =>
        J6 fu c m02 x1 scalars2 hatches x10 x2 v231 x4 (IntKind.i64.wrap (v62 + 1))
      else
        J6 fu c m02 x1 scalars2 hatches n x2 v231 x4 (IntKind.i64.wrap (v62 + 1))
    else
      if x2.isSome = true then
        Z4 fu c (Px x1.Kind n m02) scalars2 hatches (IntKind.i64.wrap (v231 + 1))
      else
        Z4 fu c m02 scalars2 hatches (IntKind.i64.wrap (v231 + 1))
end
theorem Fe (fu : Nat) : (∀ (c : D0) (m0 : List (Int × Int)) (scalars : Int) (hatches1 : Int) (v23 : Int), Le (Z4 fu c m0 scalars hatches1 v23) (V1 c m0 scalars hatches1 v23)) ∧ (∀ (c : D0) (m01 : List (Int × Int)) (x1 : E0) (scalars1 : Int) (hatches : Int) (i : Int) (x2 : Option Int) (v231 : Int), Le (N8 fu c m01 x1 scalars1 hatches i x2 v231) (R3 c m01 x1 scalars1 hatches i x2 v231)) ∧ (∀ (c : D0) (m02 : List (Int × Int)) (x1 : E0) (scalars2 : Int) (hatches : Int) (n : Int) (x2 : Option Int) (v231 : Int) (x4 : List P0 × Int) (v62 : Int), Le (J6 fu c m02 x1 scalars2 hatches n x2 v231 x4 v62) (N2 c m02 x1 scalars2 hatches n x2 v231 x4 v62)) := by
  induction fu with
  | zero => exact ⟨fun _ _ _ _ _ => Le.none, fun _ _ _ _ _ _ _ _ => Le.none, fun _ _ _ _ _ _ _ _ _ _ => Le.none⟩
  | succ fu ih =>
    obtain ⟨ih0, ih1, ih2⟩ := ih
    refine ⟨fun c m0 scalars hatches1 v23 => ?_, fun c m01 x1 scalars1 hatches i x2 v231 => ?_, fun c m02 x1 scalars2 hatches n x2 v231 x4 v62 => ?_⟩
    · rw [Z4, V1]
      repeat (first | exact Le.rfl | exact ih0 _ _ _ _ _ | exact ih1 _ _ _ _ _ _ _ _ | exact ih2 _ _ _ _ _ _ _ _ _ _ | exact Ii fu _ | exact H6 fu _ _ _ | exact Ds fu _ | exact Al fu _ _ | exact R0 _ | refine Le.bind ?_ (fun _ => ?_) | refine Le.ite ?_ ?_)
    · rw [N8, R3]
      repeat (first | exact Le.rfl | exact ih0 _ _ _ _ _ | exact ih1 _ _ _ _ _ _ _ _ | exact ih2 _ _ _ _ _ _ _ _ _ _ | exact Ii fu _ | exact H6 fu _ _ _ | exact Ds fu _ | exact Al fu _ _ | exact R0 _ | refine Le.bind ?_ (fun _ => ?_) | refine Le.ite ?_ ?_)
    · rw [J6, N2]
      repeat (first | exact Le.rfl | exact ih0 _ _ _ _ _ | exact ih1 _ _ _ _ _ _ _ _ | exact ih2 _ _ _ _ _ _ _ _ _ _ | exact Ii fu _ | exact H6 fu _ _ _ | exact Ds fu _ | exact Al fu _ _ | exact R0 _ | refine Le.bind ?_ (fun _ => ?_) | refine Le.ite ?_ ?_)
theorem Au (fu : Nat) (c : D0) (m0 : List (Int × Int)) (scalars : Int) (hatches1 : Int) (v23 : Int) : Le (Z4 fu c m0 scalars hatches1 v23) (V1 c m0 scalars hatches1 v23) := (Fe fu).1 c m0 scalars hatches1 v23
theorem H1b (fu : Nat) (c : D0) (m01 : List (Int × Int)) (x1 : E0) (scalars1 : Int) (hatches : Int) (i : Int) (x2 : Option Int) (v231 : Int) : Le (N8 fu c m01 x1 scalars1 hatches i x2 v231) (R3 c m01 x1 scalars1 hatches i x2 v231) := (Fe fu).2.1 c m01 x1 scalars1 hatches i x2 v231
theorem I1b (fu : Nat) (c : D0) (m02 : List (Int × Int)) (x1 : E0) (scalars2 : Int) (hatches : Int) (n : Int) (x2 : Option Int) (v231 : Int) (x4 : List P0 × Int) (v62 : Int) : Le (J6 fu c m02 x1 scalars2 hatches n x2 v231 x4 v62) (N2 c m02 x1 scalars2 hatches n x2 v231 x4 v62) := (Fe fu).2.2 c m02 x1 scalars2 hatches n x2 v231 x4 v62
def Rh (fu : Nat) (c : D0) : Option Int :=
  Z4 fu c (Px 3 1 (Px 2 1 (Px 1 1 []))) 0 0 0
theorem Kx (fu : Nat) (c : D0) : Le (Rh fu c) (Y8 c) := by
  unfold Rh Y8
  repeat (first | exact Le.rfl | exact Au fu _ _ _ _ _ | exact R0 _ | refine Le.bind ?_ (fun _ => ?_) | refine Le.ite ?_ ?_)
def We : Nat → N0 → D0 → Int → Option (Int × Int)
  | 0, _, _, _ => none
  | fu + 1, p, x3, v46 =>
    if (decide (v46 < ((p.Decls).length : Int))) = true then
      Kj fu x3 v46 >>= fun x5 =>
      if (x5 != 0) = true then
        some (v46, x5)
      else
        We fu p x3 (IntKind.i64.wrap (v46 + 1))
    else
      Aa fu x3 ((p.Decls).length : Int) true >>= fun x6 =>
      F4 fu x3 x6 p.Body true >>= fun x7 =>
      if (x7 != 0) = true then
        some ((-1), x7)
      else
        Rh fu x3 >>= fun x8 =>
        some ((-1), x8)
theorem O11 (fu : Nat) : (∀ (p : N0) (x3 : D0) (v46 : Int), Le (We fu p x3 v46) (R5 p x3 v46)) := by
  induction fu with
  | zero => exact fun _ _ _ => Le.none
  | succ fu ih =>
    have ih0 := ih
    refine fun p x3 v46 => ?_
    · rw [We, R5]
      repeat (first | exact Le.rfl | exact ih0 _ _ _ | exact Ty fu _ _ | exact Ch fu _ _ _ | exact Qh fu _ _ _ _ | exact Kx fu _ | exact R0 _ | refine Le.bind ?_ (fun _ => ?_) | refine Le.ite ?_ ?_)
theorem B13 (fu : Nat) (p : N0) (x3 : D0) (v46 : Int) : Le (We fu p x3 v46) (R5 p x3 v46) := (O11 fu) p x3 v46
def Xe : Nat → N0 → (List (Str × Bool)) → Int → Option (Int × Int)
  | 0, _, _, _ => none
  | fu + 1, p, m1, v27 =>
    if (decide (v27 < ((p.Decls).length : Int))) = true then
      idx p.Decls v27 >>= fun x2 =>
      Xe fu p (mpt x2.Name true m1) (IntKind.i64.wrap (v27 + 1))
    else
      some (D0.mk p ((p.Decls).length : Int) false m1) >>= fun x3 =>
      Uf fu x3 >>= fun x4 =>
      if (decide (x4 ≥ 0)) = true then
        some (x4, 8)
      else
        We fu p x3 0
theorem P11 (fu : Nat) : (∀ (p : N0) (m1 : List (Str × Bool)) (v27 : Int), Le (Xe fu p m1 v27) (S5 p m1 v27)) := by
  induction fu with
  | zero => exact fun _ _ _ => Le.none
  | succ fu ih =>
    have ih0 := ih
    refine fun p m1 v27 => ?_
    · rw [Xe, S5]
      repeat (first | exact Le.rfl | exact ih0 _ _ _ | exact Ut fu _ | exact B13 fu _ _ _ | exact R0 _ | refine Le.bind ?_ (fun _ => ?_) | refine Le.ite ?_ ?_)
theorem C13 (fu : Nat) (p : N0) (m1 : List (Str × Bool)) (v27 : Int) : Le (Xe fu p m1 v27) (S5 p m1 v27) := (P11 fu) p m1 v27
def Kf (fu : Nat) (p : N0) : Option (Int × Int) :=
  Zv fu p >>= fun x1 =>
  if (x1 != 0) = true then
    some ((-1), x1)
  else
    Xe fu p [] 0
theorem Tp (fu : Nat) (p : N0) : Le (Kf fu p) (X6 p) := by
  unfold Kf X6
  repeat (first | exact Le.rfl | exact F1b fu _ | exact C13 fu _ _ _ | exact R0 _ | refine Le.bind ?_ (fun _ => ?_) | refine Le.ite ?_ ?_)
def Up (fu : Nat) (e : C0) : Option Int :=
  V9 fu e 1 (B0.mk 0 0 false false false) >>= fun x1 =>
  Oe fu x1 >>= fun x2 =>
  some x2
theorem F15 (fu : Nat) (e : C0) : Le (Up fu e) (Md e) := by
  unfold Up Md
  repeat (first | exact Le.rfl | exact Z8 fu _ _ _ | exact Gm fu _ | exact R0 _ | refine Le.bind ?_ (fun _ => ?_) | refine Le.ite ?_ ?_)
def Vp (fu : Nat) (p : N0) (e : C0) : Option (A0 × Int) :=
  Kf fu p >>= fun x1 =>
  if (x1.2 != 0) = true then
    some ((A0.mk 0 0 0 0 [] [] []), x1.2)
  else
    Up fu e >>= fun x2 =>
    if (x2 != 0) = true then
      some ((A0.mk 0 0 0 0 [] [] []), x2)
    else
      some (D0.mk p 0 false []) >>= fun x3 =>
      Aa fu x3 ((p.Decls).length : Int) true >>= fun x4 =>
      W9 fu x4 e >>= fun x5 =>
      some (x5.1, x5.2)
theorem G15 (fu : Nat) (p : N0) (e : C0) : Le (Vp fu p e) (Nd p e) := by
  unfold Vp Nd
  repeat (first | exact Le.rfl | exact Tp fu _ | exact F15 fu _ | exact Ch fu _ _ _ | exact La fu _ _ | exact R0 _ | refine Le.bind ?_ (fun _ => ?_) | refine Le.ite ?_ ?_)
def Nq (fu : Nat) (p : N0) (e : C0) : Option (Int × Int × Int) :=
  Vp fu p e >>= fun x1 =>
  if (x1.2 != 0) = true then
    some (0, 0, x1.2)
  else
    if (x1.1.Kind != 1) = true then
      some (0, 0, 9)
    else
      some (x1.1.Low, x1.1.High, 0)
theorem P16 (fu : Nat) (p : N0) (e : C0) : Le (Nq fu p e) (C5 p e) := by
  unfold Nq C5
  repeat (first | exact Le.rfl | exact G15 fu _ _ | exact R0 _ | refine Le.bind ?_ (fun _ => ?_) | refine Le.ite ?_ ?_)
def Oq (fu : Nat) (p : N0) : Option (Int × Int) :=
  Kf fu p >>= fun x1 =>
  if (x1.2 != 0) = true then
    some (0, x1.2)
  else
    Sj fu p >>= fun x2 =>
    some (x2.steps, 0)
theorem Q16 (fu : Nat) (p : N0) : Le (Oq fu p) (Vk p) := by
  unfold Oq Vk
  repeat (first | exact Le.rfl | exact Tp fu _ | exact Ii fu _ | exact R0 _ | refine Le.bind ?_ (fun _ => ?_) | refine Le.ite ?_ ?_)
def R14 (fu : Nat) : Option Bool :=
  Fm fu [120] >>= fun x1 =>
  Fm fu [112, 105, 110] >>= fun x2 =>
  Un fu 2 >>= fun x3 =>
  Pp fu 10 [x2, x3] >>= fun x4 =>
  Un fu 1 >>= fun x5 =>
  Pp fu 8 [x4, x5] >>= fun x6 =>
  Fm fu [120] >>= fun x7 =>
  Un fu 3 >>= fun x8 =>
  Pp fu 13 [x7, x8] >>= fun x9 =>
  Kf fu (N0.mk [(E0.mk 1 [112, 105, 110] (A0.mk 1 0 9 0 [] [] []) 0 (C0.mk 0 0 [] []) [] [] []), (E0.mk 4 [120] (A0.mk 1 0 3 0 [] [] []) 0 (C0.mk 0 0 [] []) [] [] [])] [(F0.mk 0 x1 x6 [] [] 0 0 0 [] [] []), (F0.mk 3 (C0.mk 0 0 [] []) x9 [] [] 0 0 0 [] [] [])]) >>= fun x10 =>
  idx [(F0.mk 0 x1 x6 [] [] 0 0 0 [] [] []), (F0.mk 3 (C0.mk 0 0 [] []) x9 [] [] 0 0 0 [] [] [])] 0 >>= fun x11 =>
  Nq fu (N0.mk [(E0.mk 1 [112, 105, 110] (A0.mk 1 0 9 0 [] [] []) 0 (C0.mk 0 0 [] []) [] [] []), (E0.mk 4 [120] (A0.mk 1 0 3 0 [] [] []) 0 (C0.mk 0 0 [] []) [] [] [])] [(F0.mk 0 x1 x6 [] [] 0 0 0 [] [] []), (F0.mk 3 (C0.mk 0 0 [] []) x9 [] [] 0 0 0 [] [] [])]) x11.Value >>= fun x12 =>
  Oq fu (N0.mk [(E0.mk 1 [112, 105, 110] (A0.mk 1 0 9 0 [] [] []) 0 (C0.mk 0 0 [] []) [] [] []), (E0.mk 4 [120] (A0.mk 1 0 3 0 [] [] []) 0 (C0.mk 0 0 [] []) [] [] [])] [(F0.mk 0 x1 x6 [] [] 0 0 0 [] [] []), (F0.mk 3 (C0.mk 0 0 [] []) x9 [] [] 0 0 0 [] [] [])]) >>= fun x13 =>
  Fm fu [112, 105, 110] >>= fun x14 =>
  Un fu 1 >>= fun x15 =>
  Kf fu (N0.mk [(E0.mk 1 [112, 105, 110] (A0.mk 1 0 9 0 [] [] []) 0 (C0.mk 0 0 [] []) [] [] []), (E0.mk 4 [120] (A0.mk 1 0 3 0 [] [] []) 0 (C0.mk 0 0 [] []) [] [] [])] [(F0.mk 0 x14 x15 [] [] 0 0 0 [] [] [])]) >>= fun x16 =>
  some (bif (bif (bif (bif (bif (bif (bif (bif (x10.1 == (-1)) then (x10.2 == 0) else false) then (x12.1 == 1) else false) then (x12.2.1 == 19) else false) then (x12.2.2 == 0) else false) then (x13.1 == 2) else false) then (x13.2 == 0) else false) then (x16.1 == (-1)) else false) then (x16.2 == 15) else false)
theorem U1c (fu : Nat) : Le (R14 fu ) (Hl ) := by
  unfold R14 Hl
  repeat (first | exact Le.rfl | exact G1e fu _ | exact W1g fu _ | exact H1e fu _ _ | exact Tp fu _ | exact P16 fu _ _ | exact Q16 fu _ | exact R0 _ | refine Le.bind ?_ (fun _ => ?_) | refine Le.ite ?_ ?_)
end Go.Proofs.YtdkabnfphmmmnaaGreatDoor

