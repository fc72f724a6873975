/-
  Find: both sides; P12.4, first.
-/
import Derived.Test.YtonilfkaecbjnaaDoorPdG
import Derived.Test.YtonilfkaecbjnaaDoorPdEr
set_option linter.unusedSimpArgs false
namespace Go.Proofs.YtonilfkaecbjnaaDoor
open Go.Am

/-! ### a copy of a type without names -/
theorem copy_l (t : ApiType) (ht : Ok t) (x2 : List Str) (ih : ∀ x ∈ t.Of, types_replaced_v2 x = some (x, true)) :
    ∀ (r : List ApiType) (k : Nat) (a : List ApiType), t.Of.drop k = r → a.length = k → types_replaced_v2_l2 t x2 a k = some (⟨t.Kind, t.Low, t.High, t.Size, t.Name, x2, a ++ r⟩, true)
  | [], k, a, h, ha => by rw [types_replaced_v2_l2, (lp_out h).1, if_neg (by simp)]; simp
  | x :: r, k, a, h, ha => by
    obtain ⟨e1, e2, e3, e4, e5⟩ := lp_in h
    have := ht.ofs
    unfold BB at this
    rw [types_replaced_v2_l2, e1, if_pos rfl, e2, ob, ih x e5, ob]
    simp only [Bool.not_true, Bool.false_eq_true, if_false]
    rw [if_pos (decide_eq_true (by omega)), w1 (by unfold BB; omega), copy_l t ht x2 ih r (k + 1) (a ++ [x]) e3 (by simp; omega)]
    simp
theorem copy_eq (t : ApiType) : Ok t → t.some isNm = false → types_replaced_v2 t = some (t, true) := by
  induction t using ApiType.ind with
  | h t ih =>
  intro ht hn
  rw [ApiType.some_eq, Bool.or_eq_false_iff] at hn
  have hk : (t.Kind == 4) = false := hn.1
  have hnm := ht.names
  unfold BB at hnm
  have ih' : ∀ x ∈ t.Of, types_replaced_v2 x = some (x, true) := fun x hx => ih x hx (ht.kid hx) (by
    cases h : x.some isNm with
    | false => rfl
    | true => have h2 := List.any_eq_true.2 ⟨x, hx, h⟩; rw [hn.2] at h2; cases h2)
  rw [types_replaced_v2, hk, if_neg (by simp), types_replaced_v2_j1]
  unfold slices_Clone_string_string
  rw [if_pos (decide_eq_true (by omega)), ob, z0, copy_l t ht t.Names ih' t.Of 0 [] rfl rfl, List.nil_append]
  cases t
  rfl

/-! ### finding -/
def fdN {β : Type} (g : Nat → Int → Option β) (c : Int) : Nat → Nat → Int → Option β
  | _, 0, _ => none
  | k, n + 1, f => match g k f with
    | some y => some y
    | none => fdN g c (k + 1) n (f + c)
mutual
def ApiType.fd : ApiType → Str → Str → Int → Option (ApiType × Int)
  | .mk k l h s n ns of, a, p, f => bif a == p then Option.some (.mk k l h s n ns of, f) else bif k == 2 then ApiType.fdA of a p f s.toNat else bif k == 3 then ApiType.fdR of ns a p f else none
def ApiType.fdA : List ApiType → Str → Str → Int → Nat → Option (ApiType × Int)
  | [], _, _, _, _ => none
  | x :: _, a, p, f, n => fdN (fun i f => ApiType.fd x (nx a (Lib.decDigits i)) p f) x.cnt 0 n f
def ApiType.fdR : List ApiType → List Str → Str → Str → Int → Option (ApiType × Int)
  | x :: r, n :: ns, a, p, f => match ApiType.fd x (nx a n) p f with
    | Option.some y => Option.some y
    | none => ApiType.fdR r ns a p (f + x.cnt)
  | _, _, _, _, _ => none
end
theorem ApiType.fd_eq (t : ApiType) (a p : Str) (f : Int) : t.fd a p f = bif a == p then Option.some (t, f) else bif t.Kind == 2 then ApiType.fdA t.Of a p f t.Size.toNat else bif t.Kind == 3 then ApiType.fdR t.Of t.Names a p f else none := by cases t; rfl

/-- what the walk answers -/
def fRes (T : ApiType) (q : Int) (s : Int) : Option (ApiType × Int) → Bool × Int × ApiType × Int × Bool
  | some (x, n) => (false, n, x, n, true)
  | none => (true, s, T, q, false)
theorem vis1 (p s : Str) (x : ApiType) (f : Int) (T : ApiType) (q : Int) (hv : Val x) : types_Find_1 p f x s T q false = some (if (p == s) = true then (false, x, f, true) else (true, T, q, false)) := by
  unfold types_Find_1
  rw [copy_eq x hv.ok hv.nm]
  cases p == s <;> simp [ob]
theorem vis2 (p s : Str) (x : ApiType) (f : Int) (T : ApiType) (q : Int) (hv : Val x) : types_Find_1_v2 p f x s T q false = some (if (p == s) = true then (false, x, f, true) else (true, T, q, false)) := by
  unfold types_Find_1_v2
  rw [copy_eq x hv.ok hv.nm]
  cases p == s <;> simp [ob]

theorem fEachv4_l1 (path s1 : Str) (t x : ApiType) (hx : t.Of = [x]) (hs : t.Size ≤ 32) (hp : path.length + t.bulk ≤ BB) (hc : 0 ≤ x.cnt)
    (ih : ∀ (path : Str) (s : Int) (T : ApiType) (q : Int), path.length + x.bulk ≤ BB → 0 ≤ s → s + x.cnt ≤ 2000 → types_each_1_v4 path x s s1 T q false = some (fRes T q (s + x.cnt) (x.fd path s1 s))) :
    ∀ (n k : Nat) (o : Int) (T : ApiType) (q : Int), ((k + n : Nat) : Int) = t.Size → 0 ≤ o → o + n * x.cnt ≤ 2000 →
      types_each_1_v4_l1 path t s1 o T q false k = some (fRes T q (o + n * x.cnt) (fdN (fun i f => x.fd (nx path (Lib.decDigits i)) s1 f) x.cnt k n o))
  | 0, k, o, T, q, hk, _, _ => by
    rw [types_each_1_v4_l1, if_neg (by simp; omega)]
    simp [fdN, fRes]
  | n + 1, k, o, T, q, hk, h0, h1 => by
    have hd := dec_len (k := k) (by omega)
    have hbx := ApiType.bulk_eq t
    rw [hx] at hbx
    simp only [ApiType.bulks] at hbx
    unfold BB at hp
    have en : ((n + 1 : Nat) : Int) * x.cnt = n * x.cnt + x.cnt := by rw [Int.natCast_add, Int.add_mul]; simp
    have hn : 0 ≤ (n : Int) * x.cnt := Int.mul_nonneg (by omega) hc
    rw [en] at h1 ⊢
    rw [types_each_1_v4_l1, if_pos (decide_eq_true (by omega)), if_pos (decide_eq_true (by unfold maxLen; omega)), Itoa_eq (by omega), ob, if_pos (decide_eq_true (by unfold maxLen; simp; omega)), hx, show idx [x] 0 = some x from rfl, ob,
      ih _ o T q (by unfold BB; simp; omega) h0 (by omega), ob, fdN]
    simp only [nx]
    cases hf : x.fd ((path ++ [46]) ++ Lib.decDigits k) s1 o with
    | some y => simp [fRes]
    | none =>
      simp only [fRes, Bool.not_true, Bool.false_eq_true, if_false]
      rw [w1 (by unfold BB; omega), fEachv4_l1 path s1 t x hx hs (by unfold BB; omega) hc ih n (k + 1) _ T q (by omega) (by omega) (by omega)]
      rw [show o + x.cnt + n * x.cnt = o + (n * x.cnt + x.cnt) by omega]
      rfl
theorem fEachv4_l2 (path s1 : Str) (t : ApiType) (hp : path.length + t.bulk ≤ BB) (hln : t.Of.length = t.Names.length) (hv : ∀ x ∈ t.Of, Val x)
    (ih : ∀ x ∈ t.Of, ∀ (path : Str) (s : Int) (T : ApiType) (q : Int), path.length + x.bulk ≤ BB → 0 ≤ s → s + x.cnt ≤ 2000 → types_each_1_v4 path x s s1 T q false = some (fRes T q (s + x.cnt) (x.fd path s1 s))) :
    ∀ (r : List ApiType) (k : Nat) (o : Int) (T : ApiType) (q : Int), t.Of.drop k = r → 0 ≤ o → o + ApiType.cnts r ≤ 2000 →
      types_each_1_v4_l2 path t s1 o T q false k = some (fRes T q (o + ApiType.cnts r) (ApiType.fdR r (t.Names.drop k) path s1 o))
  | [], k, o, T, q, h, _, _ => by
    rw [types_each_1_v4_l2, (lp_out h).1, if_neg (by simp)]
    simp [ApiType.cnts, ApiType.fdR, fRes]
  | x :: r, k, o, T, q, h, h0, h1 => by
    obtain ⟨e1, e2, e3, e4, e5⟩ := lp_in h
    obtain ⟨y, f1, f2, f3⟩ := lp_at (l := t.Names) (k := k) (by omega)
    have hofs : t.Of.length ≤ BB := by have := ApiType.bulk_len t.Of; have := ApiType.bulk_eq t; omega
    have hc := Val.cnt_pos x (hv x e5)
    have hr := ApiType.cnts_bound r fun y hy => by have := Val.cnt_pos y (hv y (List.mem_of_mem_drop (i := k + 1) (by rw [e3]; exact hy))); omega
    have hbx := ApiType.bulk_eq t
    have hb1 := ApiType.bulk_kid e5
    have hb2 := strs_kid f3
    unfold BB at hp hofs
    simp only [ApiType.cnts] at h1
    rw [types_each_1_v4_l2, e1, if_pos rfl, e2, ob, if_pos (decide_eq_true (by unfold maxLen; omega)), f1, ob, if_pos (decide_eq_true (by unfold maxLen; simp; omega)),
      ih x e5 _ o T q (by unfold BB; simp; omega) h0 (by omega), ob, f2, ApiType.fdR, ApiType.cnts]
    simp only [nx]
    cases hf : x.fd ((path ++ [46]) ++ y) s1 o with
    | some y => simp [fRes]
    | none =>
      simp only [fRes, Bool.not_true, Bool.false_eq_true, if_false]
      rw [w1 (by unfold BB; omega), fEachv4_l2 path s1 t (by unfold BB; omega) hln hv ih r (k + 1) _ T q e3 (by omega) (by omega), Int.add_assoc]
      cases ApiType.fdR r (List.drop (k + 1) t.Names) path s1 (o + x.cnt) <;> rfl

theorem fEachv4_eq (s1 : Str) (t : ApiType) : Val t → ∀ (path : Str) (s : Int) (T : ApiType) (q : Int), path.length + t.bulk ≤ BB → 0 ≤ s → s + t.cnt ≤ 2000 → types_each_1_v4 path t s s1 T q false = some (fRes T q (s + t.cnt) (t.fd path s1 s)) := by
  induction t using ApiType.ind with
  | h t ih =>
  intro hv path s T q hp h0 h1
  have hcp := Val.cnt_pos t hv
  rw [types_each_1_v4, vis2 path s1 t s T q hv]
  rw [ApiType.fd_eq]
  cases hps : path == s1 with
  | true => simp [fRes, ob]
  | false =>
    simp only [ob, cond_false, Bool.false_eq_true, if_false, Bool.not_true]
    cases hk2 : t.Kind == 2 with
    | true =>
      obtain ⟨x, hx, s1', s2', hvx, e⟩ := hv.arr hk2
      have hm : x ∈ t.Of := by rw [hx]; exact List.mem_cons_self
      have hcx := Val.cnt_pos x hvx
      have en : (t.Size.toNat : Int) * x.cnt = t.cnt := by rw [e, show ((t.Size.toNat : Nat) : Int) = t.Size by omega]
      have := fEachv4_l1 path s1 t x hx s2' hp (by omega) (fun p s T q a b c => ih x hm hvx p s T q a b c) t.Size.toNat 0 s T q (by omega) h0 (by omega)
      rw [en] at this
      rw [if_pos rfl, z0, this, hx]
      rfl
    | false =>
      rw [if_neg (by simp)]
      cases hk3 : t.Kind == 3 with
      | true =>
        obtain ⟨r1, r2, r3, e⟩ := hv.recd hk3
        have := fEachv4_l2 path s1 t hp r1 r3 (fun x hx => ih x hx (r3 x hx)) t.Of 0 s T q rfl h0 (by omega)
        rw [if_pos rfl, z0, this, e]
        rfl
      | false =>
        obtain ⟨e, hk⟩ := hv.leaf hk2 hk3
        rw [if_neg (by simp), wr (by omega) (by omega), e]
        rfl

theorem fEachv3_l1 (path s1 : Str) (t x : ApiType) (hx : t.Of = [x]) (hs : t.Size ≤ 32) (hp : path.length + t.bulk ≤ BB) (hc : 0 ≤ x.cnt)
    (ih : ∀ (path : Str) (s : Int) (T : ApiType) (q : Int), path.length + x.bulk ≤ BB → 0 ≤ s → s + x.cnt ≤ 2000 → types_each_1_v4 path x s s1 T q false = some (fRes T q (s + x.cnt) (x.fd path s1 s))) :
    ∀ (n k : Nat) (o : Int) (T : ApiType) (q : Int), ((k + n : Nat) : Int) = t.Size → 0 ≤ o → o + n * x.cnt ≤ 2000 →
      types_each_1_v3_l1 path t s1 o T q false k = some (fRes T q (o + n * x.cnt) (fdN (fun i f => x.fd (nx path (Lib.decDigits i)) s1 f) x.cnt k n o))
  | 0, k, o, T, q, hk, _, _ => by
    rw [types_each_1_v3_l1, if_neg (by simp; omega)]
    simp [fdN, fRes]
  | n + 1, k, o, T, q, hk, h0, h1 => by
    have hd := dec_len (k := k) (by omega)
    have hbx := ApiType.bulk_eq t
    rw [hx] at hbx
    simp only [ApiType.bulks] at hbx
    unfold BB at hp
    have en : ((n + 1 : Nat) : Int) * x.cnt = n * x.cnt + x.cnt := by rw [Int.natCast_add, Int.add_mul]; simp
    have hn : 0 ≤ (n : Int) * x.cnt := Int.mul_nonneg (by omega) hc
    rw [en] at h1 ⊢
    rw [types_each_1_v3_l1, if_pos (decide_eq_true (by omega)), if_pos (decide_eq_true (by unfold maxLen; omega)), Itoa_eq (by omega), ob, if_pos (decide_eq_true (by unfold maxLen; simp; omega)), hx, show idx [x] 0 = some x from rfl, ob,
      ih _ o T q (by unfold BB; simp; omega) h0 (by omega), ob, fdN]
    simp only [nx]
    cases hf : x.fd ((path ++ [46]) ++ Lib.decDigits k) s1 o with
    | some y => simp [fRes]
    | none =>
      simp only [fRes, Bool.not_true, Bool.false_eq_true, if_false]
      rw [w1 (by unfold BB; omega), fEachv3_l1 path s1 t x hx hs (by unfold BB; omega) hc ih n (k + 1) _ T q (by omega) (by omega) (by omega)]
      rw [show o + x.cnt + n * x.cnt = o + (n * x.cnt + x.cnt) by omega]
      rfl
theorem fEachv3_l2 (path s1 : Str) (t : ApiType) (hp : path.length + t.bulk ≤ BB) (hln : t.Of.length = t.Names.length) (hv : ∀ x ∈ t.Of, Val x)
    (ih : ∀ x ∈ t.Of, ∀ (path : Str) (s : Int) (T : ApiType) (q : Int), path.length + x.bulk ≤ BB → 0 ≤ s → s + x.cnt ≤ 2000 → types_each_1_v4 path x s s1 T q false = some (fRes T q (s + x.cnt) (x.fd path s1 s))) :
    ∀ (r : List ApiType) (k : Nat) (o : Int) (T : ApiType) (q : Int), t.Of.drop k = r → 0 ≤ o → o + ApiType.cnts r ≤ 2000 →
      types_each_1_v3_l2 path t s1 o T q false k = some (fRes T q (o + ApiType.cnts r) (ApiType.fdR r (t.Names.drop k) path s1 o))
  | [], k, o, T, q, h, _, _ => by
    rw [types_each_1_v3_l2, (lp_out h).1, if_neg (by simp)]
    simp [ApiType.cnts, ApiType.fdR, fRes]
  | x :: r, k, o, T, q, h, h0, h1 => by
    obtain ⟨e1, e2, e3, e4, e5⟩ := lp_in h
    obtain ⟨y, f1, f2, f3⟩ := lp_at (l := t.Names) (k := k) (by omega)
    have hofs : t.Of.length ≤ BB := by have := ApiType.bulk_len t.Of; have := ApiType.bulk_eq t; omega
    have hc := Val.cnt_pos x (hv x e5)
    have hr := ApiType.cnts_bound r fun y hy => by have := Val.cnt_pos y (hv y (List.mem_of_mem_drop (i := k + 1) (by rw [e3]; exact hy))); omega
    have hbx := ApiType.bulk_eq t
    have hb1 := ApiType.bulk_kid e5
    have hb2 := strs_kid f3
    unfold BB at hp hofs
    simp only [ApiType.cnts] at h1
    rw [types_each_1_v3_l2, e1, if_pos rfl, e2, ob, if_pos (decide_eq_true (by unfold maxLen; omega)), f1, ob, if_pos (decide_eq_true (by unfold maxLen; simp; omega)),
      ih x e5 _ o T q (by unfold BB; simp; omega) h0 (by omega), ob, f2, ApiType.fdR, ApiType.cnts]
    simp only [nx]
    cases hf : x.fd ((path ++ [46]) ++ y) s1 o with
    | some y => simp [fRes]
    | none =>
      simp only [fRes, Bool.not_true, Bool.false_eq_true, if_false]
      rw [w1 (by unfold BB; omega), fEachv3_l2 path s1 t (by unfold BB; omega) hln hv ih r (k + 1) _ T q e3 (by omega) (by omega), Int.add_assoc]
      cases ApiType.fdR r (List.drop (k + 1) t.Names) path s1 (o + x.cnt) <;> rfl

theorem fEachv3_eq (s1 : Str) (t : ApiType) (hv : Val t) (path : Str) (s : Int) (T : ApiType) (q : Int) (hp : path.length + t.bulk ≤ BB) (h0 : 0 ≤ s) (h1 : s + t.cnt ≤ 2000) : types_each_1_v3 path t s s1 T q false = some (fRes T q (s + t.cnt) (t.fd path s1 s)) := by
  have ih := fun (x : ApiType) (_ : x ∈ t.Of) => fEachv4_eq s1 x
  have hcp := Val.cnt_pos t hv
  rw [types_each_1_v3, vis1 path s1 t s T q hv]
  rw [ApiType.fd_eq]
  cases hps : path == s1 with
  | true => simp [fRes, ob]
  | false =>
    simp only [ob, cond_false, Bool.false_eq_true, if_false, Bool.not_true]
    cases hk2 : t.Kind == 2 with
    | true =>
      obtain ⟨x, hx, s1', s2', hvx, e⟩ := hv.arr hk2
      have hm : x ∈ t.Of := by rw [hx]; exact List.mem_cons_self
      have hcx := Val.cnt_pos x hvx
      have en : (t.Size.toNat : Int) * x.cnt = t.cnt := by rw [e, show ((t.Size.toNat : Nat) : Int) = t.Size by omega]
      have := fEachv3_l1 path s1 t x hx s2' hp (by omega) (fun p s T q a b c => ih x hm hvx p s T q a b c) t.Size.toNat 0 s T q (by omega) h0 (by omega)
      rw [en] at this
      rw [if_pos rfl, z0, this, hx]
      rfl
    | false =>
      rw [if_neg (by simp)]
      cases hk3 : t.Kind == 3 with
      | true =>
        obtain ⟨r1, r2, r3, e⟩ := hv.recd hk3
        have := fEachv3_l2 path s1 t hp r1 r3 (fun x hx => ih x hx (r3 x hx)) t.Of 0 s T q rfl h0 (by omega)
        rw [if_pos rfl, z0, this, e]
        rfl
      | false =>
        obtain ⟨e, hk⟩ := hv.leaf hk2 hk3
        rw [if_neg (by simp), wr (by omega) (by omega), e]
        rfl

def zT : ApiType := ApiType.mk 0 0 0 0 [] [] []
def findT (t : ApiType) (path : Str) : ApiType × Int × Int :=
  bif checkAll t != 0 then (zT, 0, checkAll t) else match t.fd [] path 0 with
    | some (x, n) => (x, n, 0)
    | none => (zT, 0, 7)
theorem Find_eq (t : ApiType) (ht : Ok t) (path : Str) : types_Find t path = some (findT t path) := by
  unfold types_Find findT
  rw [Check_eq t ht, ob]
  cases h : checkAll t != 0 with
  | true => rfl
  | false =>
    have hv := (Val.of ht (by simpa using h)).1
    have hc := hv.cnt
    unfold types_each_v3
    rw [fEachv3_eq path t hv [] 0 _ _ (by unfold Ok at ht; simpa using ht) (by omega) (by omega), if_neg (by simp), ob, ob]
    cases t.fd [] path 0 <;> rfl

/-! ### the reference's -/
/-! ### what is found is a part -/
end Go.Proofs.YtonilfkaecbjnaaDoor

