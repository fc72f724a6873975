/- What the functions compute, and that they do: printed by gen.py. -/
import Derived.Test.YtonilfkaecbjnaaDoorDgT
import Derived.Test.YtonilfkaecbjnaaDoorDxX
set_option maxRecDepth 100000
set_option maxHeartbeats 4000000
set_option linter.unusedVariables false
namespace Go.Proofs.YtonilfkaecbjnaaDoor
open Go.Am
def slices_Clone_string_string (l : List Str) : Option (List Str) := if decide ((0 + l.length) * 17 ≤ 140737488355328) = true then some l else none
theorem slices_Clone_string_string_ok {l res : List Str} (hh : slices_Clone_string_string l = some res) : ACall C 110 [.d (.sl (estr.rows l))] [] (fun x H' => H' = [] ∧ x = .d (.sl (estr.rows res))) := by
  obtain ⟨hroom, hh⟩ := asrt_some hh
  cases hh
  refine ACall.intro hC Tryd.func110 rfl rfl rfl ?_
  refine AEx.seq ?_
  refine AEx.regionN rfl rfl ?_
  refine AOps.q hC rfl trivial ?_
  refine AOps.nil ?_
  refine AEx.seq ?_
  refine AEx.seq ?_
  refine AEx.regionN rfl rfl ?_
  refine AOps.q hC rfl trivial ?_
  refine AOps.z hC rfl fun b hnil => ?_
  refine AOps.nil ?_
  refine AEx.cond rfl (fun hb => ?_) (fun hb => ?_)
  · obtain rfl : l = [] := List.eq_nil_of_length_eq_zero (by have := estr.len l; rw [hnil hb] at this; exact this.symm)
    refine AEx.seq ?_
    refine AEx.regionN rfl rfl ?_
    refine AOps.q hC rfl trivial ?_
    skip
    refine AOps.nil ?_
    refine AEx.ret ?_
    exact ⟨_, .d (.sl (estr.rows [])), [], rfl, .full, trivial, rfl, rfl, rfl, rfl⟩
  · refine AEx.skip ?_
    refine AEx.seq ?_
    refine AEx.regionN rfl rfl ?_
    refine AOps.b hC rfl ?_
    refine AOps.q hC rfl trivial ?_
    refine AOps.ap hC rfl (rs := estr.rows l) rfl (fun r hr => absurd hr (List.not_mem_nil)) (estr.sz l) (room_of rfl (estr.len l) hroom) ?_
    refine AOps.q hC rfl trivial ?_
    refine AOps.nil ?_
    refine AEx.ret ?_
    exact ⟨_, .d (.sl (estr.rows l)), [], rfl, .osl, trivial, rfl, rfl, rfl, rfl⟩
def slices_Clone_api_Decl_api_Decl (l : List ApiDecl) : Option (List ApiDecl) := if decide ((0 + l.length) * 257 ≤ 140737488355328) = true then some l else none
theorem slices_Clone_api_Decl_api_Decl_ok {l res : List ApiDecl} (hh : slices_Clone_api_Decl_api_Decl l = some res) : ACall C 32 [.d (.sl (ApiDecl.rows l))] [] (fun x H' => H' = [.tok 59 17] ∧ x = .osl 0 (ApiDecl.rows res)) := by
  obtain ⟨hroom, hh⟩ := asrt_some hh
  cases hh
  refine ACall.intro hC Tryd.func32 rfl rfl rfl ?_
  refine AEx.seq ?_
  refine AEx.regionN rfl rfl ?_
  refine AOps.q hC rfl trivial ?_
  refine AOps.nil ?_
  refine AEx.seq ?_
  refine AEx.seq ?_
  refine AEx.regionN rfl rfl ?_
  refine AOps.q hC rfl trivial ?_
  refine AOps.z hC rfl fun b hnil => ?_
  refine AOps.nil ?_
  refine AEx.cond rfl (fun hb => ?_) (fun hb => ?_)
  · obtain rfl : l = [] := List.eq_nil_of_length_eq_zero (by have := ApiDecl.len l; rw [hnil hb] at this; exact this.symm)
    refine AEx.seq ?_
    refine AEx.regionN rfl rfl ?_
    refine AOps.q hC rfl trivial ?_
    refine AOps.tokE 2 59 17 rfl ?_
    refine AOps.nil ?_
    refine AEx.ret ?_
    exact ⟨_, .osl 0 (ApiDecl.rows []), [.tok 59 17], rfl, .rfl, ⟨rfl, trivial⟩, rfl, rfl, rfl, rfl⟩
  · refine AEx.skip ?_
    refine AEx.seq ?_
    refine AEx.regionN rfl rfl ?_
    refine AOps.b hC rfl ?_
    refine AOps.q hC rfl trivial ?_
    refine AOps.ap hC rfl (rs := ApiDecl.rows l) rfl (fun r hr => absurd hr (List.not_mem_nil)) (ApiDecl.sz l) (room_of rfl (ApiDecl.len l) hroom) ?_
    refine AOps.q hC rfl trivial ?_
    refine AOps.nil ?_
    refine AEx.ret ?_
    exact ⟨_, .osl 0 (ApiDecl.rows l), [.tok 59 17], rfl, .rfl, ⟨rfl, trivial⟩, rfl, rfl, rfl, rfl⟩
def lexer_isLetter (c : Int) : Option Bool :=
  some (bif (decide (c ≥ 97)) then (decide (c ≤ 122)) else false)
theorem lexer_isLetter_ok {c : Int} {res : Bool} (hh : lexer_isLetter c = some res) : ACall C 156 [.d (.int .u8 c)] [] (fun x H' => H' = [] ∧ x = .d (.bool res)) := by
  unfold lexer_isLetter at hh
  refine ACall.intro hC Tryd.func156 rfl rfl rfl ?_
  refine AEx.seq ?_
  refine AEx.regionN rfl rfl ?_
  refine AOps.q hC rfl trivial ?_
  refine AOps.nil ?_
  refine AEx.seq ?_
  refine AEx.regionG 7 rfl ?_
  refine AG.q hC rfl ?_ ?_
  · intro hg; refine And.intro ?_ ?_ <;> repeat' (first | exact True.intro | exact hg | exact and_l hg | exact and_l (and_l hg) | refine And.intro ?_ ?_)
  refine AG.q hC rfl ?_ ?_
  · intro hg; refine And.intro ?_ ?_ <;> repeat' (first | exact True.intro | exact hg | exact and_l hg | exact and_l (and_l hg) | refine And.intro ?_ ?_)
  refine AG.q hC rfl ?_ ?_
  · intro hg; refine And.intro ?_ ?_ <;> repeat' (first | exact True.intro | exact hg | exact and_l hg | exact and_l (and_l hg) | refine And.intro ?_ ?_)
  refine AG.q hC rfl ?_ ?_
  · intro hg; refine And.intro ?_ ?_ <;> repeat' (first | exact True.intro | exact hg | exact and_l hg | exact and_l (and_l hg) | refine And.intro ?_ ?_)
  refine AG.q hC rfl ?_ ?_
  · intro hg; refine And.intro ?_ ?_ <;> repeat' (first | exact True.intro | exact hg | exact and_l hg | exact and_l (and_l hg) | refine And.intro ?_ ?_)
  refine AG.p hC rfl ?_ ?_
  · intro hg; refine And.intro ?_ (And.intro ?_ ?_) <;> first | exact True.intro | exact fun _ => True.intro | exact And.intro hg True.intro | exact fun h' => And.intro (wb_f h') True.intro | exact fun h' => And.intro (wb_t h') True.intro | exact fun h' => And.intro (and_f hg h') True.intro | exact fun h' => And.intro (and_t hg h') True.intro | exact And.intro (and_l hg) True.intro
  refine AG.q hC rfl ?_ ?_
  · intro hg; refine And.intro ?_ ?_ <;> repeat' (first | exact True.intro | exact hg | exact and_l hg | exact and_l (and_l hg) | refine And.intro ?_ ?_)
  refine AG.nil ?_
  refine AOps.nil ?_
  refine AEx.ret ?_
  obtain rfl := Option.some.inj hh
  exact ⟨_, _, [], rfl, .rfl, trivial, rfl, rfl, rfl, rfl⟩
def lexer_isDigit (c : Int) : Option Bool :=
  some (bif (decide (c ≥ 48)) then (decide (c ≤ 57)) else false)
theorem lexer_isDigit_ok {c : Int} {res : Bool} (hh : lexer_isDigit c = some res) : ACall C 157 [.d (.int .u8 c)] [] (fun x H' => H' = [] ∧ x = .d (.bool res)) := by
  unfold lexer_isDigit at hh
  refine ACall.intro hC Tryd.func157 rfl rfl rfl ?_
  refine AEx.seq ?_
  refine AEx.regionN rfl rfl ?_
  refine AOps.q hC rfl trivial ?_
  refine AOps.nil ?_
  refine AEx.seq ?_
  refine AEx.regionG 7 rfl ?_
  refine AG.q hC rfl ?_ ?_
  · intro hg; refine And.intro ?_ ?_ <;> repeat' (first | exact True.intro | exact hg | exact and_l hg | exact and_l (and_l hg) | refine And.intro ?_ ?_)
  refine AG.q hC rfl ?_ ?_
  · intro hg; refine And.intro ?_ ?_ <;> repeat' (first | exact True.intro | exact hg | exact and_l hg | exact and_l (and_l hg) | refine And.intro ?_ ?_)
  refine AG.q hC rfl ?_ ?_
  · intro hg; refine And.intro ?_ ?_ <;> repeat' (first | exact True.intro | exact hg | exact and_l hg | exact and_l (and_l hg) | refine And.intro ?_ ?_)
  refine AG.q hC rfl ?_ ?_
  · intro hg; refine And.intro ?_ ?_ <;> repeat' (first | exact True.intro | exact hg | exact and_l hg | exact and_l (and_l hg) | refine And.intro ?_ ?_)
  refine AG.q hC rfl ?_ ?_
  · intro hg; refine And.intro ?_ ?_ <;> repeat' (first | exact True.intro | exact hg | exact and_l hg | exact and_l (and_l hg) | refine And.intro ?_ ?_)
  refine AG.p hC rfl ?_ ?_
  · intro hg; refine And.intro ?_ (And.intro ?_ ?_) <;> first | exact True.intro | exact fun _ => True.intro | exact And.intro hg True.intro | exact fun h' => And.intro (wb_f h') True.intro | exact fun h' => And.intro (wb_t h') True.intro | exact fun h' => And.intro (and_f hg h') True.intro | exact fun h' => And.intro (and_t hg h') True.intro | exact And.intro (and_l hg) True.intro
  refine AG.q hC rfl ?_ ?_
  · intro hg; refine And.intro ?_ ?_ <;> repeat' (first | exact True.intro | exact hg | exact and_l hg | exact and_l (and_l hg) | refine And.intro ?_ ?_)
  refine AG.nil ?_
  refine AOps.nil ?_
  refine AEx.ret ?_
  obtain rfl := Option.some.inj hh
  exact ⟨_, _, [], rfl, .rfl, trivial, rfl, rfl, rfl, rfl⟩
def lexer_isWord_l1 (s : Str) (v6 : Int) : Option Bool :=
  if (decide (v6 < ((s).length : Int))) = true then
    idx s v6 >>= fun x1 =>
    lexer_isLetter (x1.toNat : Int) >>= fun x2 =>
    (if ((!x2) && (!(v6 == 0))) = true then idx s v6 else some default) >>= fun x3 =>
    (if ((!x2) && (!(v6 == 0))) = true then lexer_isDigit (x3.toNat : Int) else some default) >>= fun x4 =>
    if (bif (!x2) then (bif (v6 == 0) then true else (!x4)) else false) = true then
      some false
    else
      lexer_isWord_l1 s (IntKind.i64.wrap (v6 + 1))
  else
    some (!(s == []))
  partial_fixpoint
theorem lexer_isWord_l1_grp (s : Str) : (∀ (v6 : Int) (res : Bool), lexer_isWord_l1 s v6 = some res → ALoop (Fx.mk C 28 0) (lo (bk (sr (sl (sr (bodyOf Tryd.f121)))))) (mkEnv [(0, .d (.str s)), (5, .d (.int .i64 ((s).length : Int))), (6, .d (.int .i64 v6))]) [] (Am.InBlock 0 (Am.Then (Fx.mk C 28 0) (sr (sr (bodyOf Tryd.f121))) (Am.Ends (Fx.mk C 28 0) Tryd.f121.results.toList (fun x H' => H' = [] ∧ x = .d (.bool res)))))) := by
  refine lexer_isWord_l1.partial_correctness s
    (fun v6 res => ALoop (Fx.mk C 28 0) (lo (bk (sr (sl (sr (bodyOf Tryd.f121)))))) (mkEnv [(0, .d (.str s)), (5, .d (.int .i64 ((s).length : Int))), (6, .d (.int .i64 v6))]) [] (Am.InBlock 0 (Am.Then (Fx.mk C 28 0) (sr (sr (bodyOf Tryd.f121))) (Am.Ends (Fx.mk C 28 0) Tryd.f121.results.toList (fun x H' => H' = [] ∧ x = .d (.bool res)))))) ?_
  · intro g0 ih0 v6 res hh
    refine ALoop.unroll ?_
    refine AEx.seq ?_
    refine AEx.regionN rfl rfl ?_
    refine AOps.q hC rfl trivial ?_
    refine AOps.nil ?_
    refine AEx.seq ?_
    refine AEx.cond rfl (fun hb => ?_) (fun hb => ?_)
    · replace hh := if_t hb hh
      refine AEx.skip ?_
      refine AEx.seq ?_
      refine AEx.block ?_
      refine AEx.seq ?_
      refine AEx.regionN rfl rfl ?_
      iterate 2 refine AOps.q hC rfl trivial ?_
      refine AOps.nil ?_
      refine AEx.seq ?_
      refine AEx.regionG 16 rfl ?_
      refine AG.q hC rfl ?_ ?_
      · intro hg; refine And.intro ?_ ?_ <;> repeat' (first | exact True.intro | exact hg | exact and_l hg | exact and_l (and_l hg) | refine And.intro ?_ ?_)
      refine AG.q hC rfl ?_ ?_
      · intro hg; refine And.intro ?_ ?_ <;> repeat' (first | exact True.intro | exact hg | exact and_l hg | exact and_l (and_l hg) | refine And.intro ?_ ?_)
      obtain ⟨x1, hx1, hh⟩ := bind_some hh
      refine AG.x hC rfl rfl (by intro hg; repeat' (first | exact True.intro | exact hg | exact and_l hg | exact and_l (and_l hg) | refine And.intro ?_ ?_)) (fun hw => ⟨idx_nat hx1, idx_get hx1⟩) ?_
      obtain ⟨x2, hx2, hh⟩ := bind_some hh
      refine AG.c rfl rfl (by intro hg; repeat' (first | exact True.intro | exact hg | exact and_l hg | exact and_l (and_l hg) | refine And.intro ?_ ?_)) (fun _ => lexer_isLetter_ok hx2) ?_
      refine AG.q hC rfl ?_ ?_
      · intro hg; refine And.intro ?_ ?_ <;> repeat' (first | exact True.intro | exact hg | exact and_l hg | exact and_l (and_l hg) | refine And.intro ?_ ?_)
      refine AG.q hC rfl ?_ ?_
      · intro hg; refine And.intro ?_ ?_ <;> repeat' (first | exact True.intro | exact hg | exact and_l hg | exact and_l (and_l hg) | refine And.intro ?_ ?_)
      refine AG.q hC rfl ?_ ?_
      · intro hg; refine And.intro ?_ ?_ <;> repeat' (first | exact True.intro | exact hg | exact and_l hg | exact and_l (and_l hg) | refine And.intro ?_ ?_)
      refine AG.q hC rfl ?_ ?_
      · intro hg; refine And.intro ?_ ?_ <;> repeat' (first | exact True.intro | exact hg | exact and_l hg | exact and_l (and_l hg) | refine And.intro ?_ ?_)
      refine AG.q hC rfl ?_ ?_
      · intro hg; refine And.intro ?_ ?_ <;> repeat' (first | exact True.intro | exact hg | exact and_l hg | exact and_l (and_l hg) | refine And.intro ?_ ?_)
      refine AG.q hC rfl ?_ ?_
      · intro hg; refine And.intro ?_ ?_ <;> repeat' (first | exact True.intro | exact hg | exact and_l hg | exact and_l (and_l hg) | refine And.intro ?_ ?_)
      refine AG.q hC rfl ?_ ?_
      · intro hg; refine And.intro ?_ ?_ <;> repeat' (first | exact True.intro | exact hg | exact and_l hg | exact and_l (and_l hg) | refine And.intro ?_ ?_)
      obtain ⟨x3, hx3, hh⟩ := bind_some hh
      refine AG.x hC rfl rfl (by intro hg; repeat' (first | exact True.intro | exact hg | exact and_l hg | exact and_l (and_l hg) | refine And.intro ?_ ?_)) (fun hw => ⟨idx_nat (if_t hw hx3), idx_get (if_t hw hx3)⟩) ?_
      obtain ⟨x4, hx4, hh⟩ := bind_some hh
      refine AG.c rfl rfl (by intro hg; repeat' (first | exact True.intro | exact hg | exact and_l hg | exact and_l (and_l hg) | refine And.intro ?_ ?_)) (fun hw => lexer_isDigit_ok (if_t hw hx4)) ?_
      refine AG.q hC rfl ?_ ?_
      · intro hg; refine And.intro ?_ ?_ <;> repeat' (first | exact True.intro | exact hg | exact and_l hg | exact and_l (and_l hg) | refine And.intro ?_ ?_)
      refine AG.p hC rfl ?_ ?_
      · intro hg; refine And.intro ?_ (And.intro ?_ ?_) <;> first | exact True.intro | exact fun _ => True.intro | exact And.intro hg True.intro | exact fun h' => And.intro (wb_f h') True.intro | exact fun h' => And.intro (wb_t h') True.intro | exact fun h' => And.intro (and_f hg h') True.intro | exact fun h' => And.intro (and_t hg h') True.intro | exact And.intro (and_l hg) True.intro
      refine AG.p hC rfl ?_ ?_
      · intro hg; refine And.intro ?_ (And.intro ?_ ?_) <;> first | exact True.intro | exact fun _ => True.intro | exact And.intro hg True.intro | exact fun h' => And.intro (wb_f h') True.intro | exact fun h' => And.intro (wb_t h') True.intro | exact fun h' => And.intro (and_f hg h') True.intro | exact fun h' => And.intro (and_t hg h') True.intro | exact And.intro (and_l hg) True.intro
      refine AG.nil ?_
      refine AOps.nil ?_
      refine AEx.cond rfl (fun hb => ?_) (fun hb => ?_)
      · replace hh := if_t hb hh
        refine AEx.seq ?_
        refine AEx.regionN rfl rfl ?_
        refine AOps.q hC rfl trivial ?_
        refine AOps.nil ?_
        refine AEx.ret ?_
        obtain rfl := Option.some.inj hh
        exact ⟨_, _, [], rfl, .rfl, trivial, rfl, rfl, rfl, rfl⟩
      · replace hh := if_f hb hh
        refine AEx.skip ?_
        refine AEx.regionN rfl rfl ?_
        iterate 2 refine AOps.q hC rfl trivial ?_
        refine AOps.nil ?_
        refine ALoop.wk ?_ (ih0 _ _ hh)
        exact ⟨⟨⟨.rfl, rfl⟩, ⟨⟨.rfl, rfl⟩, ⟨⟨.rfl, rfl⟩, trivial⟩⟩⟩, trivial, rfl⟩
    · replace hh := if_f hb hh
      refine AEx.exit ?_
      refine AEx.seq ?_
      refine AEx.regionN rfl rfl ?_
      iterate 3 refine AOps.q hC rfl trivial ?_
      refine AOps.nil ?_
      refine AEx.ret ?_
      obtain rfl := Option.some.inj hh
      exact ⟨_, _, [], rfl, .rfl, trivial, rfl, rfl, rfl, rfl⟩
theorem lexer_isWord_l1_ok {s : Str} {v6 : Int} {res : Bool} (hh : lexer_isWord_l1 s v6 = some res) : ALoop (Fx.mk C 28 0) (lo (bk (sr (sl (sr (bodyOf Tryd.f121)))))) (mkEnv [(0, .d (.str s)), (5, .d (.int .i64 ((s).length : Int))), (6, .d (.int .i64 v6))]) [] (Am.InBlock 0 (Am.Then (Fx.mk C 28 0) (sr (sr (bodyOf Tryd.f121))) (Am.Ends (Fx.mk C 28 0) Tryd.f121.results.toList (fun x H' => H' = [] ∧ x = .d (.bool res))))) := (lexer_isWord_l1_grp s) _ _ hh
def lexer_isWord (s : Str) : Option Bool :=
  lexer_isWord_l1 s 0
theorem lexer_isWord_ok {s : Str} {res : Bool} (hh : lexer_isWord s = some res) : ACall C 121 [.d (.str s)] [] (fun x H' => H' = [] ∧ x = .d (.bool res)) := by
  unfold lexer_isWord at hh
  refine ACall.intro hC Tryd.func121 rfl rfl rfl ?_
  refine AEx.seq ?_
  refine AEx.regionN rfl rfl ?_
  refine AOps.q hC rfl trivial ?_
  refine AOps.nil ?_
  refine AEx.seq ?_
  refine AEx.seq ?_
  refine AEx.regionN rfl rfl ?_
  iterate 3 refine AOps.q hC rfl trivial ?_
  refine AOps.nil ?_
  refine AEx.block ?_
  refine AEx.ofLoop ?_
  refine ALoop.wk ?_ (lexer_isWord_l1_ok hh)
  exact ⟨⟨⟨.rfl, rfl⟩, ⟨⟨.rfl, rfl⟩, ⟨⟨.rfl, rfl⟩, trivial⟩⟩⟩, trivial, rfl⟩
def lexer_Reserved (word : Str) : Option Bool :=
  (if (!(word == [])) = true then X_Contains word [32] else some default) >>= fun x1 =>
  if (!(bif (!(word == [])) then (!x1) else false) || (decide (1 + word.length ≤ maxLen))) = true then
    if (!(bif (!(word == [])) then (!x1) else false) || (decide (([32] ++ word).length + 1 ≤ maxLen))) = true then
      (if (bif (!(word == [])) then (!x1) else false) = true then X_Contains [32, 116, 121, 112, 101, 32, 115, 101, 99, 114, 101, 116, 32, 112, 117, 98, 108, 105, 99, 32, 114, 97, 110, 100, 111, 109, 32, 118, 97, 114, 32, 104, 97, 116, 99, 104, 32, 102, 117, 110, 99, 32, 114, 101, 116, 117, 114, 110, 32, 98, 101, 103, 105, 110, 32, 101, 110, 100, 32, 98, 111, 111, 108, 32, 105, 110, 116, 32, 97, 114, 114, 97, 121, 32, 111, 102, 32, 114, 101, 99, 111, 114, 100, 32, 116, 114, 117, 101, 32, 102, 97, 108, 115, 101, 32, 99, 97, 108, 108, 32, 114, 101, 108, 101, 97, 115, 101, 32, 111, 117, 116, 112, 117, 116, 32, 119, 97, 105, 116, 32, 105, 102, 32, 101, 108, 115, 101, 32, 119, 104, 105, 108, 101, 32, 108, 105, 109, 105, 116, 32, 102, 111, 114, 32, 116, 111, 32, 115, 101, 116, 116, 108, 101, 32, 109, 105, 110, 32, 109, 97, 120, 32] (([32] ++ word) ++ [32]) else some default) >>= fun x2 =>
      some (bif (bif (!(word == [])) then (!x1) else false) then x2 else false)
    else none
  else none
theorem lexer_Reserved_ok {word : Str} {res : Bool} (hh : lexer_Reserved word = some res) : ACall C 122 [.d (.str word)] [] (fun x H' => H' = [] ∧ x = .d (.bool res)) := by
  unfold lexer_Reserved at hh
  refine ACall.intro hC Tryd.func122 rfl rfl rfl ?_
  refine AEx.seq ?_
  refine AEx.regionN rfl rfl ?_
  refine AOps.q hC rfl trivial ?_
  refine AOps.nil ?_
  refine AEx.seq ?_
  refine AEx.regionG 14 rfl ?_
  refine AG.q hC rfl ?_ ?_
  · intro hg; refine And.intro ?_ ?_ <;> repeat' (first | exact True.intro | exact hg | exact and_l hg | exact and_l (and_l hg) | refine And.intro ?_ ?_)
  refine AG.q hC rfl ?_ ?_
  · intro hg; refine And.intro ?_ ?_ <;> repeat' (first | exact True.intro | exact hg | exact and_l hg | exact and_l (and_l hg) | refine And.intro ?_ ?_)
  refine AG.q hC rfl ?_ ?_
  · intro hg; refine And.intro ?_ ?_ <;> repeat' (first | exact True.intro | exact hg | exact and_l hg | exact and_l (and_l hg) | refine And.intro ?_ ?_)
  refine AG.q hC rfl ?_ ?_
  · intro hg; refine And.intro ?_ ?_ <;> repeat' (first | exact True.intro | exact hg | exact and_l hg | exact and_l (and_l hg) | refine And.intro ?_ ?_)
  obtain ⟨x1, hx1, hh⟩ := bind_some hh
  refine AG.c rfl rfl (by intro hg; repeat' (first | exact True.intro | exact hg | exact and_l hg | exact and_l (and_l hg) | refine And.intro ?_ ?_)) (fun hw => X_Contains_ok (if_t hw hx1)) ?_
  refine AG.q hC rfl ?_ ?_
  · intro hg; refine And.intro ?_ ?_ <;> repeat' (first | exact True.intro | exact hg | exact and_l hg | exact and_l (and_l hg) | refine And.intro ?_ ?_)
  refine AG.p hC rfl ?_ ?_
  · intro hg; refine And.intro ?_ (And.intro ?_ ?_) <;> first | exact True.intro | exact fun _ => True.intro | exact And.intro hg True.intro | exact fun h' => And.intro (wb_f h') True.intro | exact fun h' => And.intro (wb_t h') True.intro | exact fun h' => And.intro (and_f hg h') True.intro | exact fun h' => And.intro (and_t hg h') True.intro | exact And.intro (and_l hg) True.intro
  refine AG.q hC rfl ?_ ?_
  · intro hg; refine And.intro ?_ ?_ <;> repeat' (first | exact True.intro | exact hg | exact and_l hg | exact and_l (and_l hg) | refine And.intro ?_ ?_)
  refine AG.q hC rfl ?_ ?_
  · intro hg; refine And.intro ?_ ?_ <;> repeat' (first | exact True.intro | exact hg | exact and_l hg | exact and_l (and_l hg) | refine And.intro ?_ ?_)
  obtain ⟨c5, hh⟩ := asrt_imp hh
  refine AG.q hC rfl ?_ ?_
  · intro hg; refine And.intro ?_ ?_ <;> repeat' (first | exact True.intro | exact hg | exact and_l hg | exact and_l (and_l hg) | exact (c5 hg) | refine And.intro ?_ ?_)
  obtain ⟨c6, hh⟩ := asrt_imp hh
  refine AG.q hC rfl ?_ ?_
  · intro hg; refine And.intro ?_ ?_ <;> repeat' (first | exact True.intro | exact hg | exact and_l hg | exact and_l (and_l hg) | exact (c6 hg) | refine And.intro ?_ ?_)
  obtain ⟨x2, hx2, hh⟩ := bind_some hh
  refine AG.c rfl rfl (by intro hg; repeat' (first | exact True.intro | exact hg | exact and_l hg | exact and_l (and_l hg) | refine And.intro ?_ ?_)) (fun hw => X_Contains_ok (if_t hw hx2)) ?_
  refine AG.p hC rfl ?_ ?_
  · intro hg; refine And.intro ?_ (And.intro ?_ ?_) <;> first | exact True.intro | exact fun _ => True.intro | exact And.intro hg True.intro | exact fun h' => And.intro (wb_f h') True.intro | exact fun h' => And.intro (wb_t h') True.intro | exact fun h' => And.intro (and_f hg h') True.intro | exact fun h' => And.intro (and_t hg h') True.intro | exact And.intro (and_l hg) True.intro
  refine AG.q hC rfl ?_ ?_
  · intro hg; refine And.intro ?_ ?_ <;> repeat' (first | exact True.intro | exact hg | exact and_l hg | exact and_l (and_l hg) | refine And.intro ?_ ?_)
  refine AG.nil ?_
  refine AOps.nil ?_
  refine AEx.ret ?_
  obtain rfl := Option.some.inj hh
  exact ⟨_, _, [], rfl, .rfl, trivial, rfl, rfl, rfl, rfl⟩
def lexer_IsName (s : Str) : Option Bool :=
  (if (decide (((s).length : Int) ≤ 12)) = true then lexer_isWord s else some default) >>= fun x1 =>
  (if (bif (decide (((s).length : Int) ≤ 12)) then x1 else false) = true then lexer_Reserved s else some default) >>= fun x2 =>
  some (bif (bif (decide (((s).length : Int) ≤ 12)) then x1 else false) then (!x2) else false)
theorem lexer_IsName_ok {s : Str} {res : Bool} (hh : lexer_IsName s = some res) : ACall C 82 [.d (.str s)] [] (fun x H' => H' = [] ∧ x = .d (.bool res)) := by
  unfold lexer_IsName at hh
  refine ACall.intro hC Tryd.func82 rfl rfl rfl ?_
  refine AEx.seq ?_
  refine AEx.regionN rfl rfl ?_
  refine AOps.q hC rfl trivial ?_
  refine AOps.nil ?_
  refine AEx.seq ?_
  refine AEx.regionG 13 rfl ?_
  refine AG.q hC rfl ?_ ?_
  · intro hg; refine And.intro ?_ ?_ <;> repeat' (first | exact True.intro | exact hg | exact and_l hg | exact and_l (and_l hg) | refine And.intro ?_ ?_)
  refine AG.q hC rfl ?_ ?_
  · intro hg; refine And.intro ?_ ?_ <;> repeat' (first | exact True.intro | exact hg | exact and_l hg | exact and_l (and_l hg) | refine And.intro ?_ ?_)
  refine AG.q hC rfl ?_ ?_
  · intro hg; refine And.intro ?_ ?_ <;> repeat' (first | exact True.intro | exact hg | exact and_l hg | exact and_l (and_l hg) | refine And.intro ?_ ?_)
  refine AG.q hC rfl ?_ ?_
  · intro hg; refine And.intro ?_ ?_ <;> repeat' (first | exact True.intro | exact hg | exact and_l hg | exact and_l (and_l hg) | refine And.intro ?_ ?_)
  refine AG.q hC rfl ?_ ?_
  · intro hg; refine And.intro ?_ ?_ <;> repeat' (first | exact True.intro | exact hg | exact and_l hg | exact and_l (and_l hg) | refine And.intro ?_ ?_)
  obtain ⟨x1, hx1, hh⟩ := bind_some hh
  refine AG.c rfl rfl (by intro hg; repeat' (first | exact True.intro | exact hg | exact and_l hg | exact and_l (and_l hg) | refine And.intro ?_ ?_)) (fun hw => lexer_isWord_ok (if_t hw hx1)) ?_
  refine AG.p hC rfl ?_ ?_
  · intro hg; refine And.intro ?_ (And.intro ?_ ?_) <;> first | exact True.intro | exact fun _ => True.intro | exact And.intro hg True.intro | exact fun h' => And.intro (wb_f h') True.intro | exact fun h' => And.intro (wb_t h') True.intro | exact fun h' => And.intro (and_f hg h') True.intro | exact fun h' => And.intro (and_t hg h') True.intro | exact And.intro (and_l hg) True.intro
  refine AG.q hC rfl ?_ ?_
  · intro hg; refine And.intro ?_ ?_ <;> repeat' (first | exact True.intro | exact hg | exact and_l hg | exact and_l (and_l hg) | refine And.intro ?_ ?_)
  refine AG.q hC rfl ?_ ?_
  · intro hg; refine And.intro ?_ ?_ <;> repeat' (first | exact True.intro | exact hg | exact and_l hg | exact and_l (and_l hg) | refine And.intro ?_ ?_)
  obtain ⟨x2, hx2, hh⟩ := bind_some hh
  refine AG.c rfl rfl (by intro hg; repeat' (first | exact True.intro | exact hg | exact and_l hg | exact and_l (and_l hg) | refine And.intro ?_ ?_)) (fun hw => lexer_Reserved_ok (if_t hw hx2)) ?_
  refine AG.q hC rfl ?_ ?_
  · intro hg; refine And.intro ?_ ?_ <;> repeat' (first | exact True.intro | exact hg | exact and_l hg | exact and_l (and_l hg) | refine And.intro ?_ ?_)
  refine AG.p hC rfl ?_ ?_
  · intro hg; refine And.intro ?_ (And.intro ?_ ?_) <;> first | exact True.intro | exact fun _ => True.intro | exact And.intro hg True.intro | exact fun h' => And.intro (wb_f h') True.intro | exact fun h' => And.intro (wb_t h') True.intro | exact fun h' => And.intro (and_f hg h') True.intro | exact fun h' => And.intro (and_t hg h') True.intro | exact And.intro (and_l hg) True.intro
  refine AG.q hC rfl ?_ ?_
  · intro hg; refine And.intro ?_ ?_ <;> repeat' (first | exact True.intro | exact hg | exact and_l hg | exact and_l (and_l hg) | refine And.intro ?_ ?_)
  refine AG.nil ?_
  refine AOps.nil ?_
  refine AEx.ret ?_
  obtain rfl := Option.some.inj hh
  exact ⟨_, _, [], rfl, .rfl, trivial, rfl, rfl, rfl, rfl⟩
def syntax_IsName (s : Str) : Option Bool :=
  lexer_IsName s >>= fun x1 =>
  some x1
theorem syntax_IsName_ok {s : Str} {res : Bool} (hh : syntax_IsName s = some res) : ACall C 42 [.d (.str s)] [] (fun x H' => H' = [] ∧ x = .d (.bool res)) := by
  unfold syntax_IsName at hh
  refine ACall.intro hC Tryd.func42 rfl rfl rfl ?_
  refine AEx.seq ?_
  refine AEx.regionN rfl rfl ?_
  refine AOps.q hC rfl trivial ?_
  refine AOps.nil ?_
  refine AEx.seq ?_
  refine AEx.regionN rfl rfl ?_
  refine AOps.q hC rfl trivial ?_
  obtain ⟨x1, hx1, hh⟩ := bind_some hh
  refine AOps.c rfl rfl (lexer_IsName_ok hx1) ?_
  refine AOps.q hC rfl trivial ?_
  refine AOps.nil ?_
  refine AEx.ret ?_
  obtain rfl := Option.some.inj hh
  exact ⟨_, _, [], rfl, .rfl, trivial, rfl, rfl, rfl, rfl⟩
def syntax_report_deep (d : Int) (syntaxReport : SyntaxReport) : Option SyntaxReport :=
  some (SyntaxReport.mk syntaxReport.nodes (max syntaxReport.depth d) syntaxReport.badForm syntaxReport.badName syntaxReport.badNumber)
theorem syntax_report_deep_ok {d : Int} {syntaxReport : SyntaxReport} {res : SyntaxReport} (hh : syntax_report_deep d syntaxReport = some res) : ACall C 131 [.ref 0 0, .d (.int .i64 d)] [.row (SyntaxReport.cells syntaxReport) 123] (fun x H' => H' = [.row (SyntaxReport.cells res) 123] ∧ x = .tup []) := by
  unfold syntax_report_deep at hh
  refine ACall.intro hC Tryd.func131 rfl rfl rfl ?_
  refine AEx.regionN rfl rfl ?_
  iterate 9 refine AOps.q hC rfl trivial ?_
  refine AOps.s hC rfl ?_
  refine AOps.nil ?_
  obtain rfl := Option.some.inj hh
  exact ⟨_, _, [.row [.d (.int .i64 syntaxReport.nodes), .d (.int .i64 (max syntaxReport.depth d)), .d (.bool syntaxReport.badForm), .d (.bool syntaxReport.badName), .d (.bool syntaxReport.badNumber)] 123], rfl, .rfl, ⟨⟨rfl, .refl _, rfl⟩, trivial⟩, rfl, rfl, rfl, rfl⟩
def syntax_report_form (ok : Bool) (syntaxReport : SyntaxReport) : Option SyntaxReport :=
  some (SyntaxReport.mk syntaxReport.nodes syntaxReport.depth (bif syntaxReport.badForm then true else (!ok)) syntaxReport.badName syntaxReport.badNumber)
theorem syntax_report_form_ok {ok : Bool} {syntaxReport : SyntaxReport} {res : SyntaxReport} (hh : syntax_report_form ok syntaxReport = some res) : ACall C 132 [.ref 0 0, .d (.bool ok)] [.row (SyntaxReport.cells syntaxReport) 123] (fun x H' => H' = [.row (SyntaxReport.cells res) 123] ∧ x = .tup []) := by
  unfold syntax_report_form at hh
  refine ACall.intro hC Tryd.func132 rfl rfl rfl ?_
  refine AEx.regionG 11 rfl ?_
  refine AG.q hC rfl ?_ ?_
  · intro hg; refine And.intro ?_ ?_ <;> repeat' (first | exact True.intro | exact hg | exact and_l hg | exact and_l (and_l hg) | refine And.intro ?_ ?_)
  refine AG.q hC rfl ?_ ?_
  · intro hg; refine And.intro ?_ ?_ <;> repeat' (first | exact True.intro | exact hg | exact and_l hg | exact and_l (and_l hg) | refine And.intro ?_ ?_)
  refine AG.q hC rfl ?_ ?_
  · intro hg; refine And.intro ?_ ?_ <;> repeat' (first | exact True.intro | exact hg | exact and_l hg | exact and_l (and_l hg) | refine And.intro ?_ ?_)
  refine AG.q hC rfl ?_ ?_
  · intro hg; refine And.intro ?_ ?_ <;> repeat' (first | exact True.intro | exact hg | exact and_l hg | exact and_l (and_l hg) | refine And.intro ?_ ?_)
  refine AG.q hC rfl ?_ ?_
  · intro hg; refine And.intro ?_ ?_ <;> repeat' (first | exact True.intro | exact hg | exact and_l hg | exact and_l (and_l hg) | refine And.intro ?_ ?_)
  refine AG.q hC rfl ?_ ?_
  · intro hg; refine And.intro ?_ ?_ <;> repeat' (first | exact True.intro | exact hg | exact and_l hg | exact and_l (and_l hg) | refine And.intro ?_ ?_)
  refine AG.q hC rfl ?_ ?_
  · intro hg; refine And.intro ?_ ?_ <;> repeat' (first | exact True.intro | exact hg | exact and_l hg | exact and_l (and_l hg) | refine And.intro ?_ ?_)
  refine AG.q hC rfl ?_ ?_
  · intro hg; refine And.intro ?_ ?_ <;> repeat' (first | exact True.intro | exact hg | exact and_l hg | exact and_l (and_l hg) | refine And.intro ?_ ?_)
  refine AG.p hC rfl ?_ ?_
  · intro hg; refine And.intro ?_ (And.intro ?_ ?_) <;> first | exact True.intro | exact fun _ => True.intro | exact And.intro hg True.intro | exact fun h' => And.intro (wb_f h') True.intro | exact fun h' => And.intro (wb_t h') True.intro | exact fun h' => And.intro (and_f hg h') True.intro | exact fun h' => And.intro (and_t hg h') True.intro | exact And.intro (and_l hg) True.intro
  refine AG.q hC rfl ?_ ?_
  · intro hg; refine And.intro ?_ ?_ <;> repeat' (first | exact True.intro | exact hg | exact and_l hg | exact and_l (and_l hg) | refine And.intro ?_ ?_)
  refine AG.q hC rfl ?_ ?_
  · intro hg; refine And.intro ?_ ?_ <;> repeat' (first | exact True.intro | exact hg | exact and_l hg | exact and_l (and_l hg) | refine And.intro ?_ ?_)
  refine AG.nil ?_
  refine AOps.s hC rfl ?_
  refine AOps.nil ?_
  obtain rfl := Option.some.inj hh
  exact ⟨_, _, [.row [.d (.int .i64 syntaxReport.nodes), .d (.int .i64 syntaxReport.depth), .d (.bool (bif syntaxReport.badForm then true else (!ok))), .d (.bool syntaxReport.badName), .d (.bool syntaxReport.badNumber)] 123], rfl, .rfl, ⟨⟨rfl, .refl _, rfl⟩, trivial⟩, rfl, rfl, rfl, rfl⟩
def syntax_inside (n : Int) (low : Int) (high : Int) : Option Bool :=
  some (bif (decide (n ≥ low)) then (decide (n ≤ high)) else false)
theorem syntax_inside_ok {n : Int} {low : Int} {high : Int} {res : Bool} (hh : syntax_inside n low high = some res) : ACall C 134 [.d (.int .i64 n), .d (.int .i64 low), .d (.int .i64 high)] [] (fun x H' => H' = [] ∧ x = .d (.bool res)) := by
  unfold syntax_inside at hh
  refine ACall.intro hC Tryd.func134 rfl rfl rfl ?_
  refine AEx.seq ?_
  refine AEx.regionN rfl rfl ?_
  refine AOps.q hC rfl trivial ?_
  refine AOps.nil ?_
  refine AEx.seq ?_
  refine AEx.regionG 9 rfl ?_
  refine AG.q hC rfl ?_ ?_
  · intro hg; refine And.intro ?_ ?_ <;> repeat' (first | exact True.intro | exact hg | exact and_l hg | exact and_l (and_l hg) | refine And.intro ?_ ?_)
  refine AG.q hC rfl ?_ ?_
  · intro hg; refine And.intro ?_ ?_ <;> repeat' (first | exact True.intro | exact hg | exact and_l hg | exact and_l (and_l hg) | refine And.intro ?_ ?_)
  refine AG.q hC rfl ?_ ?_
  · intro hg; refine And.intro ?_ ?_ <;> repeat' (first | exact True.intro | exact hg | exact and_l hg | exact and_l (and_l hg) | refine And.intro ?_ ?_)
  refine AG.q hC rfl ?_ ?_
  · intro hg; refine And.intro ?_ ?_ <;> repeat' (first | exact True.intro | exact hg | exact and_l hg | exact and_l (and_l hg) | refine And.intro ?_ ?_)
  refine AG.q hC rfl ?_ ?_
  · intro hg; refine And.intro ?_ ?_ <;> repeat' (first | exact True.intro | exact hg | exact and_l hg | exact and_l (and_l hg) | refine And.intro ?_ ?_)
  refine AG.q hC rfl ?_ ?_
  · intro hg; refine And.intro ?_ ?_ <;> repeat' (first | exact True.intro | exact hg | exact and_l hg | exact and_l (and_l hg) | refine And.intro ?_ ?_)
  refine AG.q hC rfl ?_ ?_
  · intro hg; refine And.intro ?_ ?_ <;> repeat' (first | exact True.intro | exact hg | exact and_l hg | exact and_l (and_l hg) | refine And.intro ?_ ?_)
  refine AG.p hC rfl ?_ ?_
  · intro hg; refine And.intro ?_ (And.intro ?_ ?_) <;> first | exact True.intro | exact fun _ => True.intro | exact And.intro hg True.intro | exact fun h' => And.intro (wb_f h') True.intro | exact fun h' => And.intro (wb_t h') True.intro | exact fun h' => And.intro (and_f hg h') True.intro | exact fun h' => And.intro (and_t hg h') True.intro | exact And.intro (and_l hg) True.intro
  refine AG.q hC rfl ?_ ?_
  · intro hg; refine And.intro ?_ ?_ <;> repeat' (first | exact True.intro | exact hg | exact and_l hg | exact and_l (and_l hg) | refine And.intro ?_ ?_)
  refine AG.nil ?_
  refine AOps.nil ?_
  refine AEx.ret ?_
  obtain rfl := Option.some.inj hh
  exact ⟨_, _, [], rfl, .rfl, trivial, rfl, rfl, rfl, rfl⟩
def syntax_report_number (ok : Bool) (syntaxReport : SyntaxReport) : Option SyntaxReport :=
  some (SyntaxReport.mk syntaxReport.nodes syntaxReport.depth syntaxReport.badForm syntaxReport.badName (bif syntaxReport.badNumber then true else (!ok)))
theorem syntax_report_number_ok {ok : Bool} {syntaxReport : SyntaxReport} {res : SyntaxReport} (hh : syntax_report_number ok syntaxReport = some res) : ACall C 133 [.ref 0 0, .d (.bool ok)] [.row (SyntaxReport.cells syntaxReport) 123] (fun x H' => H' = [.row (SyntaxReport.cells res) 123] ∧ x = .tup []) := by
  unfold syntax_report_number at hh
  refine ACall.intro hC Tryd.func133 rfl rfl rfl ?_
  refine AEx.regionG 11 rfl ?_
  refine AG.q hC rfl ?_ ?_
  · intro hg; refine And.intro ?_ ?_ <;> repeat' (first | exact True.intro | exact hg | exact and_l hg | exact and_l (and_l hg) | refine And.intro ?_ ?_)
  refine AG.q hC rfl ?_ ?_
  · intro hg; refine And.intro ?_ ?_ <;> repeat' (first | exact True.intro | exact hg | exact and_l hg | exact and_l (and_l hg) | refine And.intro ?_ ?_)
  refine AG.q hC rfl ?_ ?_
  · intro hg; refine And.intro ?_ ?_ <;> repeat' (first | exact True.intro | exact hg | exact and_l hg | exact and_l (and_l hg) | refine And.intro ?_ ?_)
  refine AG.q hC rfl ?_ ?_
  · intro hg; refine And.intro ?_ ?_ <;> repeat' (first | exact True.intro | exact hg | exact and_l hg | exact and_l (and_l hg) | refine And.intro ?_ ?_)
  refine AG.q hC rfl ?_ ?_
  · intro hg; refine And.intro ?_ ?_ <;> repeat' (first | exact True.intro | exact hg | exact and_l hg | exact and_l (and_l hg) | refine And.intro ?_ ?_)
  refine AG.q hC rfl ?_ ?_
  · intro hg; refine And.intro ?_ ?_ <;> repeat' (first | exact True.intro | exact hg | exact and_l hg | exact and_l (and_l hg) | refine And.intro ?_ ?_)
  refine AG.q hC rfl ?_ ?_
  · intro hg; refine And.intro ?_ ?_ <;> repeat' (first | exact True.intro | exact hg | exact and_l hg | exact and_l (and_l hg) | refine And.intro ?_ ?_)
  refine AG.q hC rfl ?_ ?_
  · intro hg; refine And.intro ?_ ?_ <;> repeat' (first | exact True.intro | exact hg | exact and_l hg | exact and_l (and_l hg) | refine And.intro ?_ ?_)
  refine AG.p hC rfl ?_ ?_
  · intro hg; refine And.intro ?_ (And.intro ?_ ?_) <;> first | exact True.intro | exact fun _ => True.intro | exact And.intro hg True.intro | exact fun h' => And.intro (wb_f h') True.intro | exact fun h' => And.intro (wb_t h') True.intro | exact fun h' => And.intro (and_f hg h') True.intro | exact fun h' => And.intro (and_t hg h') True.intro | exact And.intro (and_l hg) True.intro
  refine AG.q hC rfl ?_ ?_
  · intro hg; refine And.intro ?_ ?_ <;> repeat' (first | exact True.intro | exact hg | exact and_l hg | exact and_l (and_l hg) | refine And.intro ?_ ?_)
  refine AG.q hC rfl ?_ ?_
  · intro hg; refine And.intro ?_ ?_ <;> repeat' (first | exact True.intro | exact hg | exact and_l hg | exact and_l (and_l hg) | refine And.intro ?_ ?_)
  refine AG.nil ?_
  refine AOps.s hC rfl ?_
  refine AOps.nil ?_
  obtain rfl := Option.some.inj hh
  exact ⟨_, _, [.row [.d (.int .i64 syntaxReport.nodes), .d (.int .i64 syntaxReport.depth), .d (.bool syntaxReport.badForm), .d (.bool syntaxReport.badName), .d (.bool (bif syntaxReport.badNumber then true else (!ok)))] 123], rfl, .rfl, ⟨⟨rfl, .refl _, rfl⟩, trivial⟩, rfl, rfl, rfl, rfl⟩
def syntax_report_name (s : Str) (syntaxReport : SyntaxReport) : Option SyntaxReport :=
  (if (!syntaxReport.badName) = true then syntax_IsName s else some default) >>= fun x1 =>
  some (SyntaxReport.mk syntaxReport.nodes syntaxReport.depth syntaxReport.badForm (bif syntaxReport.badName then true else (!x1)) syntaxReport.badNumber)
theorem syntax_report_name_ok {s : Str} {syntaxReport : SyntaxReport} {res : SyntaxReport} (hh : syntax_report_name s syntaxReport = some res) : ACall C 135 [.ref 0 0, .d (.str s)] [.row (SyntaxReport.cells syntaxReport) 123] (fun x H' => H' = [.row (SyntaxReport.cells res) 123] ∧ x = .tup []) := by
  unfold syntax_report_name at hh
  refine ACall.intro hC Tryd.func135 rfl rfl rfl ?_
  refine AEx.regionG 12 rfl ?_
  refine AG.q hC rfl ?_ ?_
  · intro hg; refine And.intro ?_ ?_ <;> repeat' (first | exact True.intro | exact hg | exact and_l hg | exact and_l (and_l hg) | refine And.intro ?_ ?_)
  refine AG.q hC rfl ?_ ?_
  · intro hg; refine And.intro ?_ ?_ <;> repeat' (first | exact True.intro | exact hg | exact and_l hg | exact and_l (and_l hg) | refine And.intro ?_ ?_)
  refine AG.q hC rfl ?_ ?_
  · intro hg; refine And.intro ?_ ?_ <;> repeat' (first | exact True.intro | exact hg | exact and_l hg | exact and_l (and_l hg) | refine And.intro ?_ ?_)
  refine AG.q hC rfl ?_ ?_
  · intro hg; refine And.intro ?_ ?_ <;> repeat' (first | exact True.intro | exact hg | exact and_l hg | exact and_l (and_l hg) | refine And.intro ?_ ?_)
  refine AG.q hC rfl ?_ ?_
  · intro hg; refine And.intro ?_ ?_ <;> repeat' (first | exact True.intro | exact hg | exact and_l hg | exact and_l (and_l hg) | refine And.intro ?_ ?_)
  refine AG.q hC rfl ?_ ?_
  · intro hg; refine And.intro ?_ ?_ <;> repeat' (first | exact True.intro | exact hg | exact and_l hg | exact and_l (and_l hg) | refine And.intro ?_ ?_)
  refine AG.q hC rfl ?_ ?_
  · intro hg; refine And.intro ?_ ?_ <;> repeat' (first | exact True.intro | exact hg | exact and_l hg | exact and_l (and_l hg) | refine And.intro ?_ ?_)
  obtain ⟨x1, hx1, hh⟩ := bind_some hh
  refine AG.c rfl rfl (by intro hg; repeat' (first | exact True.intro | exact hg | exact and_l hg | exact and_l (and_l hg) | refine And.intro ?_ ?_)) (fun hw => syntax_IsName_ok (if_t hw hx1)) ?_
  refine AG.q hC rfl ?_ ?_
  · intro hg; refine And.intro ?_ ?_ <;> repeat' (first | exact True.intro | exact hg | exact and_l hg | exact and_l (and_l hg) | refine And.intro ?_ ?_)
  refine AG.p hC rfl ?_ ?_
  · intro hg; refine And.intro ?_ (And.intro ?_ ?_) <;> first | exact True.intro | exact fun _ => True.intro | exact And.intro hg True.intro | exact fun h' => And.intro (wb_f h') True.intro | exact fun h' => And.intro (wb_t h') True.intro | exact fun h' => And.intro (and_f hg h') True.intro | exact fun h' => And.intro (and_t hg h') True.intro | exact And.intro (and_l hg) True.intro
  refine AG.q hC rfl ?_ ?_
  · intro hg; refine And.intro ?_ ?_ <;> repeat' (first | exact True.intro | exact hg | exact and_l hg | exact and_l (and_l hg) | refine And.intro ?_ ?_)
  refine AG.q hC rfl ?_ ?_
  · intro hg; refine And.intro ?_ ?_ <;> repeat' (first | exact True.intro | exact hg | exact and_l hg | exact and_l (and_l hg) | refine And.intro ?_ ?_)
  refine AG.nil ?_
  refine AOps.s hC rfl ?_
  refine AOps.nil ?_
  obtain rfl := Option.some.inj hh
  exact ⟨_, _, [.row [.d (.int .i64 syntaxReport.nodes), .d (.int .i64 syntaxReport.depth), .d (.bool syntaxReport.badForm), .d (.bool (bif syntaxReport.badName then true else (!x1))), .d (.bool syntaxReport.badNumber)] 123], rfl, .rfl, ⟨⟨rfl, .refl _, rfl⟩, trivial⟩, rfl, rfl, rfl, rfl⟩
mutual
def syntax_report_typ (t : ApiType) (depth : Int) (syntaxReport : SyntaxReport) : Option SyntaxReport :=
  syntax_report_deep depth (SyntaxReport.mk (IntKind.i64.wrap (syntaxReport.nodes + 1)) syntaxReport.depth syntaxReport.badForm syntaxReport.badName syntaxReport.badNumber) >>= fun x1 =>
  syntax_report_form (bif (decide (t.Kind ≥ 0)) then (decide (t.Kind ≤ 4)) else false) x1 >>= fun x2 =>
  syntax_report_form (bif (t.Kind == 1) then true else (bif (t.Low == 0) then (t.High == 0) else false)) x2 >>= fun x3 =>
  syntax_report_form (bif (t.Kind == 2) then true else (t.Size == 0)) x3 >>= fun x4 =>
  syntax_report_form (bif (t.Kind == 4) then true else (t.Name == [])) x4 >>= fun x5 =>
  syntax_report_form (bif (t.Kind == 3) then true else (((t.Names).length : Int) == 0)) x5 >>= fun x6 =>
  if (t.Kind == 2) = true then
    syntax_report_form (((t.Of).length : Int) == 1) x6 >>= fun x7 =>
    syntax_inside t.Size 1 32 >>= fun x8 =>
    syntax_report_number x8 x7 >>= fun x9 =>
    syntax_report_typ_j1 t depth x9
  else
    if (t.Kind == 3) = true then
      syntax_report_form (bif (decide (((t.Of).length : Int) ≥ 1)) then (((t.Of).length : Int) == ((t.Names).length : Int)) else false) x6 >>= fun x14 =>
      syntax_report_number (decide (((t.Of).length : Int) ≤ 32)) x14 >>= fun x15 =>
      syntax_report_typ_j1 t depth x15
    else
      syntax_report_form (((t.Of).length : Int) == 0) x6 >>= fun x16 =>
      syntax_report_typ_j1 t depth x16
  partial_fixpoint
def syntax_report_typ_j1 (t : ApiType) (depth : Int) (o0 : SyntaxReport) : Option SyntaxReport :=
  if (t.Kind == 1) = true then
    syntax_inside t.Low (-1048576) 1048576 >>= fun x10 =>
    (if x10 = true then syntax_inside t.High t.Low 1048576 else some default) >>= fun x11 =>
    syntax_report_number (bif x10 then x11 else false) o0 >>= fun x12 =>
    syntax_report_typ_j2 t depth x12
  else
    syntax_report_typ_j2 t depth o0
  partial_fixpoint
def syntax_report_typ_j2 (t : ApiType) (depth : Int) (o01 : SyntaxReport) : Option SyntaxReport :=
  if (t.Kind == 4) = true then
    syntax_report_name t.Name o01 >>= fun x13 =>
    syntax_report_typ_j3 t depth x13
  else
    syntax_report_typ_j3 t depth o01
  partial_fixpoint
def syntax_report_typ_j3 (t : ApiType) (depth : Int) (o02 : SyntaxReport) : Option SyntaxReport :=
  syntax_report_typ_l4 t depth o02 0
  partial_fixpoint
def syntax_report_typ_l4 (t : ApiType) (depth : Int) (o03 : SyntaxReport) (v147 : Int) : Option SyntaxReport :=
  if (decide (v147 < ((t.Names).length : Int))) = true then
    idx t.Names v147 >>= fun x17 =>
    syntax_report_name x17 o03 >>= fun x18 =>
    syntax_report_typ_l4 t depth x18 (IntKind.i64.wrap (v147 + 1))
  else
    syntax_report_typ_l5 t depth o03 0
  partial_fixpoint
def syntax_report_typ_l5 (t : ApiType) (depth : Int) (o04 : SyntaxReport) (v158 : Int) : Option SyntaxReport :=
  if (decide (v158 < ((t.Of).length : Int))) = true then
    idx t.Of v158 >>= fun x19 =>
    syntax_report_typ x19 (IntKind.i64.wrap (depth + 1)) o04 >>= fun x20 =>
    syntax_report_typ_l5 t depth x20 (IntKind.i64.wrap (v158 + 1))
  else
    some o04
  partial_fixpoint
end
theorem syntax_report_typ_grp : (∀ (t : ApiType) (depth : Int) (syntaxReport : SyntaxReport) (res : SyntaxReport), syntax_report_typ t depth syntaxReport = some res → ACall C 102 [.ref 0 0, .agg (ApiType.cells t), .d (.int .i64 depth)] [.row (SyntaxReport.cells syntaxReport) 123] (fun x H' => H' = [.row (SyntaxReport.cells res) 123] ∧ x = .tup [])) ∧
    (∀ (t : ApiType) (depth : Int) (o0 : SyntaxReport) (res : SyntaxReport), syntax_report_typ_j1 t depth o0 = some res → AEx (Fx.mk C 168 1) (sr (sr (sr (sr (sr (sr (sr (sr (sr (sr (bodyOf Tryd.f102))))))))))) (mkEnv [(0, .ref 0 0), (2, .d (.int .i64 depth)), (4, .ref 1 0), (6, .d (.bool (t.Kind == 1))), (9, .d (.bool (t.Kind == 4)))]) [.row (SyntaxReport.cells o0) 123, .row (ApiType.cells t) 27] (Am.Ends (Fx.mk C 168 1) Tryd.f102.results.toList (fun x H' => H' = [.row (SyntaxReport.cells res) 123] ∧ x = .tup []))) ∧
    (∀ (t : ApiType) (depth : Int) (o01 : SyntaxReport) (res : SyntaxReport), syntax_report_typ_j2 t depth o01 = some res → AEx (Fx.mk C 168 1) (sr (sr (sr (sr (sr (sr (sr (sr (sr (sr (sr (bodyOf Tryd.f102)))))))))))) (mkEnv [(0, .ref 0 0), (2, .d (.int .i64 depth)), (4, .ref 1 0), (9, .d (.bool (t.Kind == 4)))]) [.row (SyntaxReport.cells o01) 123, .row (ApiType.cells t) 27] (Am.Ends (Fx.mk C 168 1) Tryd.f102.results.toList (fun x H' => H' = [.row (SyntaxReport.cells res) 123] ∧ x = .tup []))) ∧
    (∀ (t : ApiType) (depth : Int) (o02 : SyntaxReport) (res : SyntaxReport), syntax_report_typ_j3 t depth o02 = some res → AEx (Fx.mk C 168 1) (sr (sr (sr (sr (sr (sr (sr (sr (sr (sr (sr (sr (bodyOf Tryd.f102))))))))))))) (mkEnv [(0, .ref 0 0), (2, .d (.int .i64 depth)), (4, .ref 1 0)]) [.row (SyntaxReport.cells o02) 123, .row (ApiType.cells t) 27] (Am.Ends (Fx.mk C 168 1) Tryd.f102.results.toList (fun x H' => H' = [.row (SyntaxReport.cells res) 123] ∧ x = .tup []))) ∧
    (∀ (t : ApiType) (depth : Int) (o03 : SyntaxReport) (v147 : Int) (res : SyntaxReport), syntax_report_typ_l4 t depth o03 v147 = some res → ALoop (Fx.mk C 168 1) (lo (bk (sr (sl (sr (sr (sr (sr (sr (sr (sr (sr (sr (sr (sr (sr (bodyOf Tryd.f102))))))))))))))))) (mkEnv [(0, .ref 0 0), (2, .d (.int .i64 depth)), (4, .ref 1 0), (145, .d (.sl (estr.rows t.Names))), (146, .d (.int .i64 ((t.Names).length : Int))), (147, .d (.int .i64 v147))]) [.row (SyntaxReport.cells o03) 123, .row (ApiType.cells t) 27] (Am.InBlock 1 (Am.Then (Fx.mk C 168 1) (sr (sr (sr (sr (sr (sr (sr (sr (sr (sr (sr (sr (sr (bodyOf Tryd.f102)))))))))))))) (Am.Ends (Fx.mk C 168 1) Tryd.f102.results.toList (fun x H' => H' = [.row (SyntaxReport.cells res) 123] ∧ x = .tup []))))) ∧
    (∀ (t : ApiType) (depth : Int) (o04 : SyntaxReport) (v158 : Int) (res : SyntaxReport), syntax_report_typ_l5 t depth o04 v158 = some res → ALoop (Fx.mk C 168 1) (lo (bk (sr (sr (sr (sr (sr (sr (sr (sr (sr (sr (sr (sr (sr (sr (bodyOf Tryd.f102))))))))))))))))) (mkEnv [(0, .ref 0 0), (2, .d (.int .i64 depth)), (156, .d (.sl (ApiType.rows t.Of))), (157, .d (.int .i64 ((t.Of).length : Int))), (158, .d (.int .i64 v158))]) [.row (SyntaxReport.cells o04) 123] (Am.InBlock 3 (Am.Ends (Fx.mk C 168 1) Tryd.f102.results.toList (fun x H' => H' = [.row (SyntaxReport.cells res) 123] ∧ x = .tup [])))) := by
  refine syntax_report_typ.mutual_partial_correctness (fun t depth syntaxReport res => ACall C 102 [.ref 0 0, .agg (ApiType.cells t), .d (.int .i64 depth)] [.row (SyntaxReport.cells syntaxReport) 123] (fun x H' => H' = [.row (SyntaxReport.cells res) 123] ∧ x = .tup []))
    (fun t depth o0 res => AEx (Fx.mk C 168 1) (sr (sr (sr (sr (sr (sr (sr (sr (sr (sr (bodyOf Tryd.f102))))))))))) (mkEnv [(0, .ref 0 0), (2, .d (.int .i64 depth)), (4, .ref 1 0), (6, .d (.bool (t.Kind == 1))), (9, .d (.bool (t.Kind == 4)))]) [.row (SyntaxReport.cells o0) 123, .row (ApiType.cells t) 27] (Am.Ends (Fx.mk C 168 1) Tryd.f102.results.toList (fun x H' => H' = [.row (SyntaxReport.cells res) 123] ∧ x = .tup [])))
    (fun t depth o01 res => AEx (Fx.mk C 168 1) (sr (sr (sr (sr (sr (sr (sr (sr (sr (sr (sr (bodyOf Tryd.f102)))))))))))) (mkEnv [(0, .ref 0 0), (2, .d (.int .i64 depth)), (4, .ref 1 0), (9, .d (.bool (t.Kind == 4)))]) [.row (SyntaxReport.cells o01) 123, .row (ApiType.cells t) 27] (Am.Ends (Fx.mk C 168 1) Tryd.f102.results.toList (fun x H' => H' = [.row (SyntaxReport.cells res) 123] ∧ x = .tup [])))
    (fun t depth o02 res => AEx (Fx.mk C 168 1) (sr (sr (sr (sr (sr (sr (sr (sr (sr (sr (sr (sr (bodyOf Tryd.f102))))))))))))) (mkEnv [(0, .ref 0 0), (2, .d (.int .i64 depth)), (4, .ref 1 0)]) [.row (SyntaxReport.cells o02) 123, .row (ApiType.cells t) 27] (Am.Ends (Fx.mk C 168 1) Tryd.f102.results.toList (fun x H' => H' = [.row (SyntaxReport.cells res) 123] ∧ x = .tup [])))
    (fun t depth o03 v147 res => ALoop (Fx.mk C 168 1) (lo (bk (sr (sl (sr (sr (sr (sr (sr (sr (sr (sr (sr (sr (sr (sr (bodyOf Tryd.f102))))))))))))))))) (mkEnv [(0, .ref 0 0), (2, .d (.int .i64 depth)), (4, .ref 1 0), (145, .d (.sl (estr.rows t.Names))), (146, .d (.int .i64 ((t.Names).length : Int))), (147, .d (.int .i64 v147))]) [.row (SyntaxReport.cells o03) 123, .row (ApiType.cells t) 27] (Am.InBlock 1 (Am.Then (Fx.mk C 168 1) (sr (sr (sr (sr (sr (sr (sr (sr (sr (sr (sr (sr (sr (bodyOf Tryd.f102)))))))))))))) (Am.Ends (Fx.mk C 168 1) Tryd.f102.results.toList (fun x H' => H' = [.row (SyntaxReport.cells res) 123] ∧ x = .tup [])))))
    (fun t depth o04 v158 res => ALoop (Fx.mk C 168 1) (lo (bk (sr (sr (sr (sr (sr (sr (sr (sr (sr (sr (sr (sr (sr (sr (bodyOf Tryd.f102))))))))))))))))) (mkEnv [(0, .ref 0 0), (2, .d (.int .i64 depth)), (156, .d (.sl (ApiType.rows t.Of))), (157, .d (.int .i64 ((t.Of).length : Int))), (158, .d (.int .i64 v158))]) [.row (SyntaxReport.cells o04) 123] (Am.InBlock 3 (Am.Ends (Fx.mk C 168 1) Tryd.f102.results.toList (fun x H' => H' = [.row (SyntaxReport.cells res) 123] ∧ x = .tup [])))) ?_ ?_ ?_ ?_ ?_ ?_
  · intro g1 ih1 t depth syntaxReport res hh
    refine ACall.intro hC Tryd.func102 rfl rfl rfl ?_
    refine AEx.seq ?_
    refine AEx.regionN rfl rfl ?_
    refine AOps.n hC rfl ?_
    refine AOps.nil ?_
    refine AEx.seq ?_
    refine AEx.regionN rfl rfl ?_
    iterate 7 refine AOps.q hC rfl trivial ?_
    refine AOps.s hC rfl ?_
    refine AOps.nil ?_
    refine AEx.seq ?_
    refine AEx.regionN rfl rfl ?_
    iterate 2 refine AOps.q hC rfl trivial ?_
    obtain ⟨x1, hx1, hh⟩ := bind_some hh
    refine AOps.g [0] rfl (syntax_report_deep_ok hx1) ⟨.rfl, ⟨.rfl, trivial⟩⟩ rfl ⟨rfl, trivial⟩ rfl rfl ?_
    refine AOps.nil ?_
    refine AEx.seq ?_
    refine AEx.regionG 9 rfl ?_
    refine AG.q hC rfl ?_ ?_
    · intro hg; refine And.intro ?_ ?_ <;> repeat' (first | exact True.intro | exact hg | exact and_l hg | exact and_l (and_l hg) | refine And.intro ?_ ?_)
    refine AG.q hC rfl ?_ ?_
    · intro hg; refine And.intro ?_ ?_ <;> repeat' (first | exact True.intro | exact hg | exact and_l hg | exact and_l (and_l hg) | refine And.intro ?_ ?_)
    refine AG.q hC rfl ?_ ?_
    · intro hg; refine And.intro ?_ ?_ <;> repeat' (first | exact True.intro | exact hg | exact and_l hg | exact and_l (and_l hg) | refine And.intro ?_ ?_)
    refine AG.q hC rfl ?_ ?_
    · intro hg; refine And.intro ?_ ?_ <;> repeat' (first | exact True.intro | exact hg | exact and_l hg | exact and_l (and_l hg) | refine And.intro ?_ ?_)
    refine AG.q hC rfl ?_ ?_
    · intro hg; refine And.intro ?_ ?_ <;> repeat' (first | exact True.intro | exact hg | exact and_l hg | exact and_l (and_l hg) | refine And.intro ?_ ?_)
    refine AG.q hC rfl ?_ ?_
    · intro hg; refine And.intro ?_ ?_ <;> repeat' (first | exact True.intro | exact hg | exact and_l hg | exact and_l (and_l hg) | refine And.intro ?_ ?_)
    refine AG.q hC rfl ?_ ?_
    · intro hg; refine And.intro ?_ ?_ <;> repeat' (first | exact True.intro | exact hg | exact and_l hg | exact and_l (and_l hg) | refine And.intro ?_ ?_)
    refine AG.q hC rfl ?_ ?_
    · intro hg; refine And.intro ?_ ?_ <;> repeat' (first | exact True.intro | exact hg | exact and_l hg | exact and_l (and_l hg) | refine And.intro ?_ ?_)
    refine AG.p hC rfl ?_ ?_
    · intro hg; refine And.intro ?_ (And.intro ?_ ?_) <;> first | exact True.intro | exact fun _ => True.intro | exact And.intro hg True.intro | exact fun h' => And.intro (wb_f h') True.intro | exact fun h' => And.intro (wb_t h') True.intro | exact fun h' => And.intro (and_f hg h') True.intro | exact fun h' => And.intro (and_t hg h') True.intro | exact And.intro (and_l hg) True.intro
    refine AG.nil ?_
    obtain ⟨x2, hx2, hh⟩ := bind_some hh
    refine AOps.g [0] rfl (syntax_report_form_ok hx2) ⟨.rfl, ⟨.rfl, trivial⟩⟩ rfl ⟨rfl, trivial⟩ rfl rfl ?_
    refine AOps.nil ?_
    refine AEx.seq ?_
    refine AEx.draw hC 16 rfl rfl rfl ?_
    refine AQ.q hC rfl trivial ?_
    refine AQ.q hC rfl trivial ?_
    refine AQ.q hC rfl trivial ?_
    refine AQ.q hC rfl trivial ?_
    refine AQ.q hC rfl trivial ?_
    refine AQ.q hC rfl trivial ?_
    refine AQ.q hC rfl trivial ?_
    refine AQ.q hC rfl trivial ?_
    refine AQ.q hC rfl trivial ?_
    refine AQ.q hC rfl trivial ?_
    refine AQ.q hC rfl trivial ?_
    refine AQ.q hC rfl trivial ?_
    refine AQ.q hC rfl trivial ?_
    refine AQ.q hC rfl trivial ?_
    refine AQ.q hC rfl trivial ?_
    refine AQ.q hC rfl trivial ?_
    refine AQ.nil ?_
    refine AOps.nil ?_
    refine AEx.seq ?_
    refine AEx.regionG 12 rfl ?_
    refine AG.q hC rfl ?_ ?_
    · intro hg; refine And.intro ?_ ?_ <;> repeat' (first | exact True.intro | exact hg | exact and_l hg | exact and_l (and_l hg) | refine And.intro ?_ ?_)
    refine AG.q hC rfl ?_ ?_
    · intro hg; refine And.intro ?_ ?_ <;> repeat' (first | exact True.intro | exact hg | exact and_l hg | exact and_l (and_l hg) | refine And.intro ?_ ?_)
    refine AG.q hC rfl ?_ ?_
    · intro hg; refine And.intro ?_ ?_ <;> repeat' (first | exact True.intro | exact hg | exact and_l hg | exact and_l (and_l hg) | refine And.intro ?_ ?_)
    refine AG.q hC rfl ?_ ?_
    · intro hg; refine And.intro ?_ ?_ <;> repeat' (first | exact True.intro | exact hg | exact and_l hg | exact and_l (and_l hg) | refine And.intro ?_ ?_)
    refine AG.q hC rfl ?_ ?_
    · intro hg; refine And.intro ?_ ?_ <;> repeat' (first | exact True.intro | exact hg | exact and_l hg | exact and_l (and_l hg) | refine And.intro ?_ ?_)
    refine AG.q hC rfl ?_ ?_
    · intro hg; refine And.intro ?_ ?_ <;> repeat' (first | exact True.intro | exact hg | exact and_l hg | exact and_l (and_l hg) | refine And.intro ?_ ?_)
    refine AG.q hC rfl ?_ ?_
    · intro hg; refine And.intro ?_ ?_ <;> repeat' (first | exact True.intro | exact hg | exact and_l hg | exact and_l (and_l hg) | refine And.intro ?_ ?_)
    refine AG.q hC rfl ?_ ?_
    · intro hg; refine And.intro ?_ ?_ <;> repeat' (first | exact True.intro | exact hg | exact and_l hg | exact and_l (and_l hg) | refine And.intro ?_ ?_)
    refine AG.q hC rfl ?_ ?_
    · intro hg; refine And.intro ?_ ?_ <;> repeat' (first | exact True.intro | exact hg | exact and_l hg | exact and_l (and_l hg) | refine And.intro ?_ ?_)
    refine AG.q hC rfl ?_ ?_
    · intro hg; refine And.intro ?_ ?_ <;> repeat' (first | exact True.intro | exact hg | exact and_l hg | exact and_l (and_l hg) | refine And.intro ?_ ?_)
    refine AG.p hC rfl ?_ ?_
    · intro hg; refine And.intro ?_ (And.intro ?_ ?_) <;> first | exact True.intro | exact fun _ => True.intro | exact And.intro hg True.intro | exact fun h' => And.intro (wb_f h') True.intro | exact fun h' => And.intro (wb_t h') True.intro | exact fun h' => And.intro (and_f hg h') True.intro | exact fun h' => And.intro (and_t hg h') True.intro | exact And.intro (and_l hg) True.intro
    refine AG.p hC rfl ?_ ?_
    · intro hg; refine And.intro ?_ (And.intro ?_ ?_) <;> first | exact True.intro | exact fun _ => True.intro | exact And.intro hg True.intro | exact fun h' => And.intro (wb_f h') True.intro | exact fun h' => And.intro (wb_t h') True.intro | exact fun h' => And.intro (and_f hg h') True.intro | exact fun h' => And.intro (and_t hg h') True.intro | exact And.intro (and_l hg) True.intro
    refine AG.nil ?_
    obtain ⟨x3, hx3, hh⟩ := bind_some hh
    refine AOps.g [0] rfl (syntax_report_form_ok hx3) ⟨.rfl, ⟨.rfl, trivial⟩⟩ rfl ⟨rfl, trivial⟩ rfl rfl ?_
    refine AOps.nil ?_
    refine AEx.seq ?_
    refine AEx.regionG 7 rfl ?_
    refine AG.q hC rfl ?_ ?_
    · intro hg; refine And.intro ?_ ?_ <;> repeat' (first | exact True.intro | exact hg | exact and_l hg | exact and_l (and_l hg) | refine And.intro ?_ ?_)
    refine AG.q hC rfl ?_ ?_
    · intro hg; refine And.intro ?_ ?_ <;> repeat' (first | exact True.intro | exact hg | exact and_l hg | exact and_l (and_l hg) | refine And.intro ?_ ?_)
    refine AG.q hC rfl ?_ ?_
    · intro hg; refine And.intro ?_ ?_ <;> repeat' (first | exact True.intro | exact hg | exact and_l hg | exact and_l (and_l hg) | refine And.intro ?_ ?_)
    refine AG.q hC rfl ?_ ?_
    · intro hg; refine And.intro ?_ ?_ <;> repeat' (first | exact True.intro | exact hg | exact and_l hg | exact and_l (and_l hg) | refine And.intro ?_ ?_)
    refine AG.q hC rfl ?_ ?_
    · intro hg; refine And.intro ?_ ?_ <;> repeat' (first | exact True.intro | exact hg | exact and_l hg | exact and_l (and_l hg) | refine And.intro ?_ ?_)
    refine AG.q hC rfl ?_ ?_
    · intro hg; refine And.intro ?_ ?_ <;> repeat' (first | exact True.intro | exact hg | exact and_l hg | exact and_l (and_l hg) | refine And.intro ?_ ?_)
    refine AG.p hC rfl ?_ ?_
    · intro hg; refine And.intro ?_ (And.intro ?_ ?_) <;> first | exact True.intro | exact fun _ => True.intro | exact And.intro hg True.intro | exact fun h' => And.intro (wb_f h') True.intro | exact fun h' => And.intro (wb_t h') True.intro | exact fun h' => And.intro (and_f hg h') True.intro | exact fun h' => And.intro (and_t hg h') True.intro | exact And.intro (and_l hg) True.intro
    refine AG.nil ?_
    obtain ⟨x4, hx4, hh⟩ := bind_some hh
    refine AOps.g [0] rfl (syntax_report_form_ok hx4) ⟨.rfl, ⟨.rfl, trivial⟩⟩ rfl ⟨rfl, trivial⟩ rfl rfl ?_
    refine AOps.nil ?_
    refine AEx.seq ?_
    refine AEx.regionG 7 rfl ?_
    refine AG.q hC rfl ?_ ?_
    · intro hg; refine And.intro ?_ ?_ <;> repeat' (first | exact True.intro | exact hg | exact and_l hg | exact and_l (and_l hg) | refine And.intro ?_ ?_)
    refine AG.q hC rfl ?_ ?_
    · intro hg; refine And.intro ?_ ?_ <;> repeat' (first | exact True.intro | exact hg | exact and_l hg | exact and_l (and_l hg) | refine And.intro ?_ ?_)
    refine AG.q hC rfl ?_ ?_
    · intro hg; refine And.intro ?_ ?_ <;> repeat' (first | exact True.intro | exact hg | exact and_l hg | exact and_l (and_l hg) | refine And.intro ?_ ?_)
    refine AG.q hC rfl ?_ ?_
    · intro hg; refine And.intro ?_ ?_ <;> repeat' (first | exact True.intro | exact hg | exact and_l hg | exact and_l (and_l hg) | refine And.intro ?_ ?_)
    refine AG.q hC rfl ?_ ?_
    · intro hg; refine And.intro ?_ ?_ <;> repeat' (first | exact True.intro | exact hg | exact and_l hg | exact and_l (and_l hg) | refine And.intro ?_ ?_)
    refine AG.q hC rfl ?_ ?_
    · intro hg; refine And.intro ?_ ?_ <;> repeat' (first | exact True.intro | exact hg | exact and_l hg | exact and_l (and_l hg) | refine And.intro ?_ ?_)
    refine AG.p hC rfl ?_ ?_
    · intro hg; refine And.intro ?_ (And.intro ?_ ?_) <;> first | exact True.intro | exact fun _ => True.intro | exact And.intro hg True.intro | exact fun h' => And.intro (wb_f h') True.intro | exact fun h' => And.intro (wb_t h') True.intro | exact fun h' => And.intro (and_f hg h') True.intro | exact fun h' => And.intro (and_t hg h') True.intro | exact And.intro (and_l hg) True.intro
    refine AG.nil ?_
    obtain ⟨x5, hx5, hh⟩ := bind_some hh
    refine AOps.g [0] rfl (syntax_report_form_ok hx5) ⟨.rfl, ⟨.rfl, trivial⟩⟩ rfl ⟨rfl, trivial⟩ rfl rfl ?_
    refine AOps.nil ?_
    refine AEx.seq ?_
    refine AEx.regionG 8 rfl ?_
    refine AG.q hC rfl ?_ ?_
    · intro hg; refine And.intro ?_ ?_ <;> repeat' (first | exact True.intro | exact hg | exact and_l hg | exact and_l (and_l hg) | refine And.intro ?_ ?_)
    refine AG.q hC rfl ?_ ?_
    · intro hg; refine And.intro ?_ ?_ <;> repeat' (first | exact True.intro | exact hg | exact and_l hg | exact and_l (and_l hg) | refine And.intro ?_ ?_)
    refine AG.q hC rfl ?_ ?_
    · intro hg; refine And.intro ?_ ?_ <;> repeat' (first | exact True.intro | exact hg | exact and_l hg | exact and_l (and_l hg) | refine And.intro ?_ ?_)
    refine AG.q hC rfl ?_ ?_
    · intro hg; refine And.intro ?_ ?_ <;> repeat' (first | exact True.intro | exact hg | exact and_l hg | exact and_l (and_l hg) | refine And.intro ?_ ?_)
    refine AG.q hC rfl ?_ ?_
    · intro hg; refine And.intro ?_ ?_ <;> repeat' (first | exact True.intro | exact hg | exact and_l hg | exact and_l (and_l hg) | refine And.intro ?_ ?_)
    refine AG.qe hC rfl ?_ (estr.lenA _) ?_
    · intro hg; refine And.intro ?_ ?_ <;> repeat' (first | exact True.intro | exact hg | exact and_l hg | exact and_l (and_l hg) | refine And.intro ?_ ?_)
    refine AG.q hC rfl ?_ ?_
    · intro hg; refine And.intro ?_ ?_ <;> repeat' (first | exact True.intro | exact hg | exact and_l hg | exact and_l (and_l hg) | refine And.intro ?_ ?_)
    refine AG.p hC rfl ?_ ?_
    · intro hg; refine And.intro ?_ (And.intro ?_ ?_) <;> first | exact True.intro | exact fun _ => True.intro | exact And.intro hg True.intro | exact fun h' => And.intro (wb_f h') True.intro | exact fun h' => And.intro (wb_t h') True.intro | exact fun h' => And.intro (and_f hg h') True.intro | exact fun h' => And.intro (and_t hg h') True.intro | exact And.intro (and_l hg) True.intro
    refine AG.nil ?_
    obtain ⟨x6, hx6, hh⟩ := bind_some hh
    refine AOps.g [0] rfl (syntax_report_form_ok hx6) ⟨.rfl, ⟨.rfl, trivial⟩⟩ rfl ⟨rfl, trivial⟩ rfl rfl ?_
    refine AOps.nil ?_
    refine AEx.seq ?_
    refine AEx.block ?_
    refine AEx.seq ?_
    refine AEx.regionN rfl rfl ?_
    iterate 2 refine AOps.q hC rfl trivial ?_
    refine AOps.nil ?_
    refine AEx.cond rfl (fun hb => ?_) (fun hb => ?_)
    · replace hh := if_t hb hh
      refine AEx.seq ?_
      refine AEx.regionN rfl rfl ?_
      iterate 3 refine AOps.q hC rfl trivial ?_
      refine AOps.qe hC rfl trivial (ApiType.lenA _) ?_
      refine AOps.q hC rfl trivial ?_
      obtain ⟨x7, hx7, hh⟩ := bind_some hh
      refine AOps.g [0] rfl (syntax_report_form_ok hx7) ⟨.rfl, ⟨.rfl, trivial⟩⟩ rfl ⟨rfl, trivial⟩ rfl rfl ?_
      refine AOps.nil ?_
      refine AEx.regionN rfl rfl ?_
      iterate 3 refine AOps.q hC rfl trivial ?_
      obtain ⟨x8, hx8, hh⟩ := bind_some hh
      refine AOps.c rfl rfl (syntax_inside_ok hx8) ?_
      obtain ⟨x9, hx9, hh⟩ := bind_some hh
      refine AOps.g [0] rfl (syntax_report_number_ok hx9) ⟨.rfl, ⟨.rfl, trivial⟩⟩ rfl ⟨rfl, trivial⟩ rfl rfl ?_
      refine AOps.nil ?_
      refine AEx.wk ?_ (ih1 _ _ _ _ hh)
      exact ⟨⟨⟨.rfl, rfl⟩, ⟨⟨.rfl, rfl⟩, ⟨⟨.rfl, rfl⟩, ⟨⟨.rfl, rfl⟩, ⟨⟨.rfl, rfl⟩, trivial⟩⟩⟩⟩⟩, ⟨⟨rfl, .refl _, rfl⟩, ⟨⟨rfl, .refl _, rfl⟩, trivial⟩⟩, rfl⟩
    · replace hh := if_f hb hh
      refine AEx.seq ?_
      refine AEx.regionN rfl rfl ?_
      iterate 2 refine AOps.q hC rfl trivial ?_
      refine AOps.nil ?_
      refine AEx.cond rfl (fun hb => ?_) (fun hb => ?_)
      · replace hh := if_t hb hh
        refine AEx.seq ?_
        refine AEx.regionG 14 rfl ?_
        refine AG.q hC rfl ?_ ?_
        · intro hg; refine And.intro ?_ ?_ <;> repeat' (first | exact True.intro | exact hg | exact and_l hg | exact and_l (and_l hg) | refine And.intro ?_ ?_)
        refine AG.q hC rfl ?_ ?_
        · intro hg; refine And.intro ?_ ?_ <;> repeat' (first | exact True.intro | exact hg | exact and_l hg | exact and_l (and_l hg) | refine And.intro ?_ ?_)
        refine AG.q hC rfl ?_ ?_
        · intro hg; refine And.intro ?_ ?_ <;> repeat' (first | exact True.intro | exact hg | exact and_l hg | exact and_l (and_l hg) | refine And.intro ?_ ?_)
        refine AG.qe hC rfl ?_ (ApiType.lenA _) ?_
        · intro hg; refine And.intro ?_ ?_ <;> repeat' (first | exact True.intro | exact hg | exact and_l hg | exact and_l (and_l hg) | refine And.intro ?_ ?_)
        refine AG.q hC rfl ?_ ?_
        · intro hg; refine And.intro ?_ ?_ <;> repeat' (first | exact True.intro | exact hg | exact and_l hg | exact and_l (and_l hg) | refine And.intro ?_ ?_)
        refine AG.q hC rfl ?_ ?_
        · intro hg; refine And.intro ?_ ?_ <;> repeat' (first | exact True.intro | exact hg | exact and_l hg | exact and_l (and_l hg) | refine And.intro ?_ ?_)
        refine AG.q hC rfl ?_ ?_
        · intro hg; refine And.intro ?_ ?_ <;> repeat' (first | exact True.intro | exact hg | exact and_l hg | exact and_l (and_l hg) | refine And.intro ?_ ?_)
        refine AG.q hC rfl ?_ ?_
        · intro hg; refine And.intro ?_ ?_ <;> repeat' (first | exact True.intro | exact hg | exact and_l hg | exact and_l (and_l hg) | refine And.intro ?_ ?_)
        refine AG.qe hC rfl ?_ (ApiType.lenA _) ?_
        · intro hg; refine And.intro ?_ ?_ <;> repeat' (first | exact True.intro | exact hg | exact and_l hg | exact and_l (and_l hg) | refine And.intro ?_ ?_)
        refine AG.q hC rfl ?_ ?_
        · intro hg; refine And.intro ?_ ?_ <;> repeat' (first | exact True.intro | exact hg | exact and_l hg | exact and_l (and_l hg) | refine And.intro ?_ ?_)
        refine AG.q hC rfl ?_ ?_
        · intro hg; refine And.intro ?_ ?_ <;> repeat' (first | exact True.intro | exact hg | exact and_l hg | exact and_l (and_l hg) | refine And.intro ?_ ?_)
        refine AG.qe hC rfl ?_ (estr.lenA _) ?_
        · intro hg; refine And.intro ?_ ?_ <;> repeat' (first | exact True.intro | exact hg | exact and_l hg | exact and_l (and_l hg) | refine And.intro ?_ ?_)
        refine AG.q hC rfl ?_ ?_
        · intro hg; refine And.intro ?_ ?_ <;> repeat' (first | exact True.intro | exact hg | exact and_l hg | exact and_l (and_l hg) | refine And.intro ?_ ?_)
        refine AG.p hC rfl ?_ ?_
        · intro hg; refine And.intro ?_ (And.intro ?_ ?_) <;> first | exact True.intro | exact fun _ => True.intro | exact And.intro hg True.intro | exact fun h' => And.intro (wb_f h') True.intro | exact fun h' => And.intro (wb_t h') True.intro | exact fun h' => And.intro (and_f hg h') True.intro | exact fun h' => And.intro (and_t hg h') True.intro | exact And.intro (and_l hg) True.intro
        refine AG.nil ?_
        obtain ⟨x14, hx14, hh⟩ := bind_some hh
        refine AOps.g [0] rfl (syntax_report_form_ok hx14) ⟨.rfl, ⟨.rfl, trivial⟩⟩ rfl ⟨rfl, trivial⟩ rfl rfl ?_
        refine AOps.nil ?_
        refine AEx.regionN rfl rfl ?_
        iterate 3 refine AOps.q hC rfl trivial ?_
        refine AOps.qe hC rfl trivial (ApiType.lenA _) ?_
        refine AOps.q hC rfl trivial ?_
        obtain ⟨x15, hx15, hh⟩ := bind_some hh
        refine AOps.g [0] rfl (syntax_report_number_ok hx15) ⟨.rfl, ⟨.rfl, trivial⟩⟩ rfl ⟨rfl, trivial⟩ rfl rfl ?_
        refine AOps.nil ?_
        refine AEx.wk ?_ (ih1 _ _ _ _ hh)
        exact ⟨⟨⟨.rfl, rfl⟩, ⟨⟨.rfl, rfl⟩, ⟨⟨.rfl, rfl⟩, ⟨⟨.rfl, rfl⟩, ⟨⟨.rfl, rfl⟩, trivial⟩⟩⟩⟩⟩, ⟨⟨rfl, .refl _, rfl⟩, ⟨⟨rfl, .refl _, rfl⟩, trivial⟩⟩, rfl⟩
      · replace hh := if_f hb hh
        refine AEx.regionN rfl rfl ?_
        iterate 3 refine AOps.q hC rfl trivial ?_
        refine AOps.qe hC rfl trivial (ApiType.lenA _) ?_
        refine AOps.q hC rfl trivial ?_
        obtain ⟨x16, hx16, hh⟩ := bind_some hh
        refine AOps.g [0] rfl (syntax_report_form_ok hx16) ⟨.rfl, ⟨.rfl, trivial⟩⟩ rfl ⟨rfl, trivial⟩ rfl rfl ?_
        refine AOps.nil ?_
        refine AEx.wk ?_ (ih1 _ _ _ _ hh)
        exact ⟨⟨⟨.rfl, rfl⟩, ⟨⟨.rfl, rfl⟩, ⟨⟨.rfl, rfl⟩, ⟨⟨.rfl, rfl⟩, ⟨⟨.rfl, rfl⟩, trivial⟩⟩⟩⟩⟩, ⟨⟨rfl, .refl _, rfl⟩, ⟨⟨rfl, .refl _, rfl⟩, trivial⟩⟩, rfl⟩
  · intro g2 ih2 t depth o0 res hh
    refine AEx.seq ?_
    refine AEx.seq ?_
    refine AEx.regionN rfl rfl ?_
    refine AOps.q hC rfl trivial ?_
    refine AOps.nil ?_
    refine AEx.cond rfl (fun hb => ?_) (fun hb => ?_)
    · replace hh := if_t hb hh
      refine AEx.regionG 11 rfl ?_
      refine AG.q hC rfl ?_ ?_
      · intro hg; refine And.intro ?_ ?_ <;> repeat' (first | exact True.intro | exact hg | exact and_l hg | exact and_l (and_l hg) | refine And.intro ?_ ?_)
      refine AG.q hC rfl ?_ ?_
      · intro hg; refine And.intro ?_ ?_ <;> repeat' (first | exact True.intro | exact hg | exact and_l hg | exact and_l (and_l hg) | refine And.intro ?_ ?_)
      refine AG.q hC rfl ?_ ?_
      · intro hg; refine And.intro ?_ ?_ <;> repeat' (first | exact True.intro | exact hg | exact and_l hg | exact and_l (and_l hg) | refine And.intro ?_ ?_)
      obtain ⟨x10, hx10, hh⟩ := bind_some hh
      refine AG.c rfl rfl (by intro hg; repeat' (first | exact True.intro | exact hg | exact and_l hg | exact and_l (and_l hg) | refine And.intro ?_ ?_)) (fun _ => syntax_inside_ok hx10) ?_
      refine AG.q hC rfl ?_ ?_
      · intro hg; refine And.intro ?_ ?_ <;> repeat' (first | exact True.intro | exact hg | exact and_l hg | exact and_l (and_l hg) | refine And.intro ?_ ?_)
      refine AG.q hC rfl ?_ ?_
      · intro hg; refine And.intro ?_ ?_ <;> repeat' (first | exact True.intro | exact hg | exact and_l hg | exact and_l (and_l hg) | refine And.intro ?_ ?_)
      refine AG.q hC rfl ?_ ?_
      · intro hg; refine And.intro ?_ ?_ <;> repeat' (first | exact True.intro | exact hg | exact and_l hg | exact and_l (and_l hg) | refine And.intro ?_ ?_)
      refine AG.q hC rfl ?_ ?_
      · intro hg; refine And.intro ?_ ?_ <;> repeat' (first | exact True.intro | exact hg | exact and_l hg | exact and_l (and_l hg) | refine And.intro ?_ ?_)
      refine AG.q hC rfl ?_ ?_
      · intro hg; refine And.intro ?_ ?_ <;> repeat' (first | exact True.intro | exact hg | exact and_l hg | exact and_l (and_l hg) | refine And.intro ?_ ?_)
      obtain ⟨x11, hx11, hh⟩ := bind_some hh
      refine AG.c rfl rfl (by intro hg; repeat' (first | exact True.intro | exact hg | exact and_l hg | exact and_l (and_l hg) | refine And.intro ?_ ?_)) (fun hw => syntax_inside_ok (if_t hw hx11)) ?_
      refine AG.p hC rfl ?_ ?_
      · intro hg; refine And.intro ?_ (And.intro ?_ ?_) <;> first | exact True.intro | exact fun _ => True.intro | exact And.intro hg True.intro | exact fun h' => And.intro (wb_f h') True.intro | exact fun h' => And.intro (wb_t h') True.intro | exact fun h' => And.intro (and_f hg h') True.intro | exact fun h' => And.intro (and_t hg h') True.intro | exact And.intro (and_l hg) True.intro
      refine AG.nil ?_
      obtain ⟨x12, hx12, hh⟩ := bind_some hh
      refine AOps.g [0] rfl (syntax_report_number_ok hx12) ⟨.rfl, ⟨.rfl, trivial⟩⟩ rfl ⟨rfl, trivial⟩ rfl rfl ?_
      refine AOps.nil ?_
      refine AEx.wk ?_ (ih2 _ _ _ _ hh)
      exact ⟨⟨⟨.rfl, rfl⟩, ⟨⟨.rfl, rfl⟩, ⟨⟨.rfl, rfl⟩, ⟨⟨.rfl, rfl⟩, trivial⟩⟩⟩⟩, ⟨⟨rfl, .refl _, rfl⟩, ⟨⟨rfl, .refl _, rfl⟩, trivial⟩⟩, rfl⟩
    · replace hh := if_f hb hh
      refine AEx.skip ?_
      refine AEx.wk ?_ (ih2 _ _ _ _ hh)
      exact ⟨⟨⟨.rfl, rfl⟩, ⟨⟨.rfl, rfl⟩, ⟨⟨.rfl, rfl⟩, ⟨⟨.rfl, rfl⟩, trivial⟩⟩⟩⟩, ⟨⟨rfl, .refl _, rfl⟩, ⟨⟨rfl, .refl _, rfl⟩, trivial⟩⟩, rfl⟩
  · intro g3 ih3 t depth o01 res hh
    refine AEx.seq ?_
    refine AEx.seq ?_
    refine AEx.regionN rfl rfl ?_
    refine AOps.q hC rfl trivial ?_
    refine AOps.nil ?_
    refine AEx.cond rfl (fun hb => ?_) (fun hb => ?_)
    · replace hh := if_t hb hh
      refine AEx.regionN rfl rfl ?_
      iterate 3 refine AOps.q hC rfl trivial ?_
      obtain ⟨x13, hx13, hh⟩ := bind_some hh
      refine AOps.g [0] rfl (syntax_report_name_ok hx13) ⟨.rfl, ⟨.rfl, trivial⟩⟩ rfl ⟨rfl, trivial⟩ rfl rfl ?_
      refine AOps.nil ?_
      refine AEx.wk ?_ (ih3 _ _ _ _ hh)
      exact ⟨⟨⟨.rfl, rfl⟩, ⟨⟨.rfl, rfl⟩, ⟨⟨.rfl, rfl⟩, trivial⟩⟩⟩, ⟨⟨rfl, .refl _, rfl⟩, ⟨⟨rfl, .refl _, rfl⟩, trivial⟩⟩, rfl⟩
    · replace hh := if_f hb hh
      refine AEx.skip ?_
      refine AEx.wk ?_ (ih3 _ _ _ _ hh)
      exact ⟨⟨⟨.rfl, rfl⟩, ⟨⟨.rfl, rfl⟩, ⟨⟨.rfl, rfl⟩, trivial⟩⟩⟩, ⟨⟨rfl, .refl _, rfl⟩, ⟨⟨rfl, .refl _, rfl⟩, trivial⟩⟩, rfl⟩
  · intro g4 ih4 t depth o02 res hh
    refine AEx.seq ?_
    refine AEx.seq ?_
    refine AEx.regionN rfl rfl ?_
    iterate 2 refine AOps.q hC rfl trivial ?_
    refine AOps.qe hC rfl trivial (estr.lenA _) ?_
    refine AOps.q hC rfl trivial ?_
    refine AOps.nil ?_
    refine AEx.block ?_
    refine AEx.ofLoop ?_
    refine ALoop.wk ?_ (ih4 _ _ _ _ _ hh)
    exact ⟨⟨⟨.rfl, rfl⟩, ⟨⟨.rfl, rfl⟩, ⟨⟨.rfl, rfl⟩, ⟨⟨.rfl, rfl⟩, ⟨⟨.rfl, rfl⟩, ⟨⟨.rfl, rfl⟩, trivial⟩⟩⟩⟩⟩⟩, ⟨⟨rfl, .refl _, rfl⟩, ⟨⟨rfl, .refl _, rfl⟩, trivial⟩⟩, rfl⟩
  · intro g4 g5 ih4 ih5 t depth o03 v147 res hh
    refine ALoop.unroll ?_
    refine AEx.seq ?_
    refine AEx.regionN rfl rfl ?_
    refine AOps.q hC rfl trivial ?_
    refine AOps.nil ?_
    refine AEx.seq ?_
    refine AEx.cond rfl (fun hb => ?_) (fun hb => ?_)
    · replace hh := if_t hb hh
      refine AEx.skip ?_
      refine AEx.seq ?_
      refine AEx.block ?_
      refine AEx.seq ?_
      refine AEx.regionN rfl rfl ?_
      obtain ⟨x17, hx17, hh⟩ := bind_some hh
      refine AOps.i hC rfl (idx_nat hx17) (estr.idx hx17) rfl ?_
      iterate 2 refine AOps.q hC rfl trivial ?_
      refine AOps.nil ?_
      refine AEx.regionN rfl rfl ?_
      iterate 2 refine AOps.q hC rfl trivial ?_
      obtain ⟨x18, hx18, hh⟩ := bind_some hh
      refine AOps.g [0] rfl (syntax_report_name_ok hx18) ⟨.rfl, ⟨.rfl, trivial⟩⟩ rfl ⟨rfl, trivial⟩ rfl rfl ?_
      refine AOps.nil ?_
      refine AEx.regionN rfl rfl ?_
      iterate 2 refine AOps.q hC rfl trivial ?_
      refine AOps.nil ?_
      refine ALoop.wk ?_ (ih4 _ _ _ _ _ hh)
      exact ⟨⟨⟨.rfl, rfl⟩, ⟨⟨.rfl, rfl⟩, ⟨⟨.rfl, rfl⟩, ⟨⟨.rfl, rfl⟩, ⟨⟨.rfl, rfl⟩, ⟨⟨.rfl, rfl⟩, trivial⟩⟩⟩⟩⟩⟩, ⟨⟨rfl, .refl _, rfl⟩, ⟨⟨rfl, .refl _, rfl⟩, trivial⟩⟩, rfl⟩
    · replace hh := if_f hb hh
      refine AEx.exit ?_
      refine AEx.seq ?_
      refine AEx.regionN rfl rfl ?_
      iterate 2 refine AOps.q hC rfl trivial ?_
      refine AOps.qe hC rfl trivial (ApiType.lenA _) ?_
      refine AOps.q hC rfl trivial ?_
      refine AOps.nil ?_
      refine AEx.block ?_
      refine AEx.ofLoop ?_
      refine ALoop.wk ?_ (ih5 _ _ _ _ _ hh)
      exact ⟨⟨⟨.rfl, rfl⟩, ⟨⟨.rfl, rfl⟩, ⟨⟨.rfl, rfl⟩, ⟨⟨.rfl, rfl⟩, ⟨⟨.rfl, rfl⟩, trivial⟩⟩⟩⟩⟩, ⟨⟨rfl, .refl _, rfl⟩, trivial⟩, rfl⟩
  · intro g0 g5 ih0 ih5 t depth o04 v158 res hh
    refine ALoop.unroll ?_
    refine AEx.seq ?_
    refine AEx.regionN rfl rfl ?_
    refine AOps.q hC rfl trivial ?_
    refine AOps.nil ?_
    refine AEx.seq ?_
    refine AEx.cond rfl (fun hb => ?_) (fun hb => ?_)
    · replace hh := if_t hb hh
      refine AEx.skip ?_
      refine AEx.seq ?_
      refine AEx.block ?_
      refine AEx.seq ?_
      refine AEx.regionN rfl rfl ?_
      obtain ⟨x19, hx19, hh⟩ := bind_some hh
      refine AOps.i hC rfl (idx_nat hx19) (ApiType.idx hx19) rfl ?_
      refine AOps.q hC rfl trivial ?_
      refine AOps.nf hC rfl ?_
      refine AOps.s hC rfl ?_
      refine AOps.nil ?_
      refine AEx.regionN rfl rfl ?_
      iterate 4 refine AOps.q hC rfl trivial ?_
      obtain ⟨x20, hx20, hh⟩ := bind_some hh
      refine AOps.g [0] rfl (ih0 _ _ _ _ hx20) ⟨.rfl, ⟨.rfl, ⟨.rfl, trivial⟩⟩⟩ rfl ⟨rfl, trivial⟩ rfl rfl ?_
      refine AOps.nil ?_
      refine AEx.regionN rfl rfl ?_
      iterate 2 refine AOps.q hC rfl trivial ?_
      refine AOps.nil ?_
      refine ALoop.wk ?_ (ih5 _ _ _ _ _ hh)
      exact ⟨⟨⟨.rfl, rfl⟩, ⟨⟨.rfl, rfl⟩, ⟨⟨.rfl, rfl⟩, ⟨⟨.rfl, rfl⟩, ⟨⟨.rfl, rfl⟩, trivial⟩⟩⟩⟩⟩, ⟨⟨rfl, .refl _, rfl⟩, trivial⟩, rfl⟩
    · replace hh := if_f hb hh
      refine AEx.exit ?_
      obtain rfl := Option.some.inj hh
      exact ⟨_, _, [.row (SyntaxReport.cells o04) 123], rfl, .rfl, ⟨⟨rfl, .refl _, rfl⟩, trivial⟩, rfl, rfl, rfl, rfl⟩
theorem syntax_report_typ_ok {t : ApiType} {depth : Int} {syntaxReport : SyntaxReport} {res : SyntaxReport} (hh : syntax_report_typ t depth syntaxReport = some res) : ACall C 102 [.ref 0 0, .agg (ApiType.cells t), .d (.int .i64 depth)] [.row (SyntaxReport.cells syntaxReport) 123] (fun x H' => H' = [.row (SyntaxReport.cells res) 123] ∧ x = .tup []) := (syntax_report_typ_grp).1 _ _ _ _ hh
theorem syntax_report_typ_j1_ok {t : ApiType} {depth : Int} {o0 : SyntaxReport} {res : SyntaxReport} (hh : syntax_report_typ_j1 t depth o0 = some res) : AEx (Fx.mk C 168 1) (sr (sr (sr (sr (sr (sr (sr (sr (sr (sr (bodyOf Tryd.f102))))))))))) (mkEnv [(0, .ref 0 0), (2, .d (.int .i64 depth)), (4, .ref 1 0), (6, .d (.bool (t.Kind == 1))), (9, .d (.bool (t.Kind == 4)))]) [.row (SyntaxReport.cells o0) 123, .row (ApiType.cells t) 27] (Am.Ends (Fx.mk C 168 1) Tryd.f102.results.toList (fun x H' => H' = [.row (SyntaxReport.cells res) 123] ∧ x = .tup [])) := (syntax_report_typ_grp).2.1 _ _ _ _ hh
theorem syntax_report_typ_j2_ok {t : ApiType} {depth : Int} {o01 : SyntaxReport} {res : SyntaxReport} (hh : syntax_report_typ_j2 t depth o01 = some res) : AEx (Fx.mk C 168 1) (sr (sr (sr (sr (sr (sr (sr (sr (sr (sr (sr (bodyOf Tryd.f102)))))))))))) (mkEnv [(0, .ref 0 0), (2, .d (.int .i64 depth)), (4, .ref 1 0), (9, .d (.bool (t.Kind == 4)))]) [.row (SyntaxReport.cells o01) 123, .row (ApiType.cells t) 27] (Am.Ends (Fx.mk C 168 1) Tryd.f102.results.toList (fun x H' => H' = [.row (SyntaxReport.cells res) 123] ∧ x = .tup [])) := (syntax_report_typ_grp).2.2.1 _ _ _ _ hh
theorem syntax_report_typ_j3_ok {t : ApiType} {depth : Int} {o02 : SyntaxReport} {res : SyntaxReport} (hh : syntax_report_typ_j3 t depth o02 = some res) : AEx (Fx.mk C 168 1) (sr (sr (sr (sr (sr (sr (sr (sr (sr (sr (sr (sr (bodyOf Tryd.f102))))))))))))) (mkEnv [(0, .ref 0 0), (2, .d (.int .i64 depth)), (4, .ref 1 0)]) [.row (SyntaxReport.cells o02) 123, .row (ApiType.cells t) 27] (Am.Ends (Fx.mk C 168 1) Tryd.f102.results.toList (fun x H' => H' = [.row (SyntaxReport.cells res) 123] ∧ x = .tup [])) := (syntax_report_typ_grp).2.2.2.1 _ _ _ _ hh
theorem syntax_report_typ_l4_ok {t : ApiType} {depth : Int} {o03 : SyntaxReport} {v147 : Int} {res : SyntaxReport} (hh : syntax_report_typ_l4 t depth o03 v147 = some res) : ALoop (Fx.mk C 168 1) (lo (bk (sr (sl (sr (sr (sr (sr (sr (sr (sr (sr (sr (sr (sr (sr (bodyOf Tryd.f102))))))))))))))))) (mkEnv [(0, .ref 0 0), (2, .d (.int .i64 depth)), (4, .ref 1 0), (145, .d (.sl (estr.rows t.Names))), (146, .d (.int .i64 ((t.Names).length : Int))), (147, .d (.int .i64 v147))]) [.row (SyntaxReport.cells o03) 123, .row (ApiType.cells t) 27] (Am.InBlock 1 (Am.Then (Fx.mk C 168 1) (sr (sr (sr (sr (sr (sr (sr (sr (sr (sr (sr (sr (sr (bodyOf Tryd.f102)))))))))))))) (Am.Ends (Fx.mk C 168 1) Tryd.f102.results.toList (fun x H' => H' = [.row (SyntaxReport.cells res) 123] ∧ x = .tup [])))) := (syntax_report_typ_grp).2.2.2.2.1 _ _ _ _ _ hh
theorem syntax_report_typ_l5_ok {t : ApiType} {depth : Int} {o04 : SyntaxReport} {v158 : Int} {res : SyntaxReport} (hh : syntax_report_typ_l5 t depth o04 v158 = some res) : ALoop (Fx.mk C 168 1) (lo (bk (sr (sr (sr (sr (sr (sr (sr (sr (sr (sr (sr (sr (sr (sr (bodyOf Tryd.f102))))))))))))))))) (mkEnv [(0, .ref 0 0), (2, .d (.int .i64 depth)), (156, .d (.sl (ApiType.rows t.Of))), (157, .d (.int .i64 ((t.Of).length : Int))), (158, .d (.int .i64 v158))]) [.row (SyntaxReport.cells o04) 123] (Am.InBlock 3 (Am.Ends (Fx.mk C 168 1) Tryd.f102.results.toList (fun x H' => H' = [.row (SyntaxReport.cells res) 123] ∧ x = .tup []))) := (syntax_report_typ_grp).2.2.2.2.2 _ _ _ _ _ hh
end Go.Proofs.YtonilfkaecbjnaaDoor
