/- A part of the proof of ParserInverse. -/
import Derived.Test.YtmnhfbekncjnfaaGreatDoorDgA
set_option maxRecDepth 100000
set_option maxHeartbeats 4000000
set_option synthInstance.maxSize 20000
set_option linter.unusedVariables false
namespace Go.Proofs.YtmnhfbekncjnfaaGreatDoor
open Go.Am
mutual
def M8 (a:E0)(b:E0):Option Bool:=
 if (bif (bif (bif (bif (bif (bif (a.Kind != b.Kind) then true else (a.Low != b.Low)) then true else (a.High != b.High)) then true else (a.Size != b.Size)) then true else (!(a.Name == b.Name))) then true else (((a.Names).length:Int) != ((b.Names).length:Int))) then true else (((a.Of).length:Int) != ((b.Of).length:Int)))=true then
  some false
 else
  Hc a b 0
 partial_fixpoint
def Hc (a:E0)(b:E0)(i:Int):Option Bool:=
 if (decide (i < ((a.Names).length:Int)))=true then
  idx a.Names i>>=fun x1=>
  idx b.Names i>>=fun x2=>
  if (!(x1 == x2))=true then
   some false
  else
   Hc a b (IntKind.i64.wrap (i+1))
 else
  G9 a b 0
 partial_fixpoint
def G9 (a:E0)(b:E0)(i1:Int):Option Bool:=
 if (decide (i1 < ((a.Of).length:Int)))=true then
  idx a.Of i1>>=fun x3=>
  idx b.Of i1>>=fun x4=>
  M8 x3 x4>>=fun x5=>
  if (!x5)=true then
   some false
  else
   G9 a b (IntKind.i64.wrap (i1+1))
 else
  some true
 partial_fixpoint
end
abbrev Bu (a:E0)(b:E0)(res:Bool):Prop:=P0 C 16 [.agg (E0.cells a),.agg (E0.cells b)] [] (Ret [] (.d (.bool res)))
abbrev V11 (a:E0)(b:E0)(i:Int)(res:Bool):Prop:=LM C 95 0 Tryz.f16 [1,1,0,1,4] [(2,.ref 0 0),(3,.ref 1 0),(5,.d (.int .i64 i))] [.row (E0.cells a) 36,.row (E0.cells b) 36] (Ret [] (.d (.bool res)))
abbrev W11 (a:E0)(b:E0)(i1:Int)(res:Bool):Prop:=LM C 95 0 Tryz.f16 [1,1,1,0,1,4] [(2,.ref 0 0),(3,.ref 1 0),(6,.d (.int .i64 i1))] [.row (E0.cells a) 36,.row (E0.cells b) 36] (Ret [] (.d (.bool res)))
theorem C14:(∀ a b res,M8 a b=some res→Bu a b res)∧(∀ a b i res,Hc a b i=some res→V11 a b i res)∧(∀ a b i1 res,G9 a b i1=some res→W11 a b i1 res):=by
 refine M8.mutual_partial_correctness _ _ _ ?_ ?_ ?_
 ·intro g1 ih1 a b res hh
  refine P0.intro hC Tryz.func16 rfl rfl rfl (s' rfl rfl (F0.n hC rfl (F0.n hC rfl (e' rfl (S' (sg' 51 rfl (G' 7 rfl (a1' rfl (a0' rfl (a1' rfl (a2' rfl (po' rfl (G' 2 rfl ?_)))))))))))))
  refine a1' rfl (a0' rfl (a1' rfl (a2' rfl (po' rfl (G' 2 rfl (a1' rfl (a0' rfl (a1' rfl (a2' rfl (po' rfl (G' 2 rfl (a1' rfl (a0' rfl ?_)))))))))))))
  refine a1' rfl (a2' rfl (po' rfl (G' 2 rfl (a1' rfl (AG.qe hC rfl (fun hg=>⟨⟨hg,trivial⟩,trivial⟩) (estr.lenA _) (a0' rfl (a1' rfl (AG.qe hC rfl (fun hg=>⟨⟨hg,trivial⟩,trivial⟩) (estr.lenA _) (a2' rfl (po' rfl (G' 2 rfl (a1' rfl (AG.qe hC rfl (fun hg=>⟨⟨hg,trivial⟩,trivial⟩) (E0.lenA _) ?_)))))))))))))
  refine a0' rfl (a1' rfl (AG.qe hC rfl (fun hg=>⟨⟨hg,trivial⟩,trivial⟩) (E0.lenA _) (a2' rfl (po' rfl (an' (n' (ci' rfl hh (fun hh=>?_) (fun hh=>?_))))))))
  ·cases hh
   exact t' rfl (re' (rq rfl))
  exact sk' (S' (t' rfl (bk' (fq (ih1 _ _ _ _ hh) rfl))))
 ·intro g1 g2 ih1 ih2 a b i res hh
  refine X0.unroll (S' (p' 3 rfl (qe' rfl trivial (estr.lenA _) (e' rfl (ci' rfl hh (fun hh=>?_) (fun hh=>?_))))))
  ·obtain ⟨x1,hx1,hh⟩:=bs' hh
   obtain ⟨x2,hx2,hh⟩:=bs' hh
   refine sk' (S' (bk' (S' (AEx.draw hC 11 rfl rfl rfl (O' 3 rfl (AQ.i hC rfl (Z0 hx1) (estr.idx hx1) rfl (O' 4 rfl (AQ.i hC rfl (Z0 hx2) (estr.idx hx2) rfl (E' rfl (n' (ci' rfl hh (fun hh=>?_) (fun hh=>?_))))))))))))
   ·cases hh
    exact t' rfl (re' (rq rfl))
   exact sk' (T' rfl (lq (ih1 _ _ _ _ hh) rfl))
  exact ex' (S' (t' rfl (bk' (fq (ih2 _ _ _ _ hh) rfl))))
 ·intro g0 g2 ih0 ih2 a b i1 res hh
  refine X0.unroll (S' (p' 3 rfl (qe' rfl trivial (E0.lenA _) (e' rfl (ci' rfl hh (fun hh=>?_) (fun hh=>?_))))))
  ·obtain ⟨x3,hx3,hh⟩:=bs' hh
   obtain ⟨x4,hx4,hh⟩:=bs' hh
   obtain ⟨x5,hx5,hh⟩:=bs' hh
   refine sk' (S' (bk' (S' (AEx.draw hC 12 rfl rfl rfl (O' 3 rfl (AQ.i hC rfl (Z0 hx3) (E0.idx hx3) rfl (O' 4 rfl (AQ.i hC rfl (Z0 hx4) (E0.idx hx4) rfl (Q' rfl (Qc' (ih0 _ _ _ hx5) rfl rfl (E' rfl (n' (ci' rfl hh (fun hh=>?_) (fun hh=>?_))))))))))))))
   ·cases hh
    exact t' rfl (re' (rq rfl))
   exact sk' (T' rfl (lq (ih2 _ _ _ _ hh) rfl))
  cases hh
  exact ex' (t' rfl (re' (rq rfl)))
theorem Us {a b res}(hh:M8 a b=some res):Bu a b res:=(C14).1 _ _ _ hh
def Ri (t:E0):Option Bool:=
 M8 t (E0.mk 0 0 0 0 [] [] [])>>=fun x1=>
 some x1
theorem A18 {t res}(hh:Ri t=some res):P0 C 135 [.agg (E0.cells t)] [] (Ret [] (.d (.bool res))):=by
 unfold Ri at hh
 obtain ⟨x1,hx1,hh⟩:=bs' hh
 cases hh
 exact P0.intro hC Tryz.func135 rfl rfl rfl (s' rfl rfl (F0.n hC rfl (e' rfl (p' 2 rfl (cq (Us hx1) rfl (e' rfl (re' (rq rfl))))))))
mutual
def Qa (t:E0):Option Int:=
 Ic t 1 0
 partial_fixpoint
def Ic (t:E0)(n:Int)(i:Int):Option Int:=
 if (decide (i < ((t.Of).length:Int)))=true then
  idx t.Of i>>=fun x1=>
  Qa x1>>=fun x2=>
  Ic t (IntKind.i64.wrap (n+x2)) (IntKind.i64.wrap (i+1))
 else
  some n
 partial_fixpoint
end
abbrev Cu (t:E0)(res:Int):Prop:=P0 C 136 [.agg (E0.cells t)] [] (Ret [] (.d (.int .i64 res)))
abbrev X11 (t:E0)(n:Int)(i:Int)(res:Int):Prop:=LM C 21 0 Tryz.f136 [1,1,0,1,4] [(1,.ref 0 0),(3,.d (.int .i64 n)),(4,.d (.int .i64 i))] [.row (E0.cells t) 36] (Ret [] (.d (.int .i64 res)))
theorem D14:(∀ t res,Qa t=some res→Cu t res)∧(∀ t n i res,Ic t n i=some res→X11 t n i res):=by
 refine Qa.mutual_partial_correctness _ _ ?_ ?_
 ·intro g1 ih1 t res hh
  exact P0.intro hC Tryz.func136 rfl rfl rfl (s' rfl rfl (F0.n hC rfl (e' rfl (t' rfl (S' (t' rfl (bk' (fq (ih1 _ _ _ _ hh) rfl))))))))
 ·intro g0 g1 ih0 ih1 t n i res hh
  refine X0.unroll (S' (p' 3 rfl (qe' rfl trivial (E0.lenA _) (e' rfl (ci' rfl hh (fun hh=>?_) (fun hh=>?_))))))
  ·obtain ⟨x1,hx1,hh⟩:=bs' hh
   obtain ⟨x2,hx2,hh⟩:=bs' hh
   exact sk' (S' (bk' (P' 4 rfl (i' rfl (Z0 hx1) (E0.idx hx1) rfl (q' rfl (cq (ih0 _ _ hx2) rfl (e' rfl (T' rfl (lq (ih1 _ _ _ _ hh) rfl)))))))))
  cases hh
  exact ex' (t' rfl (re' (rq rfl)))
theorem X15 {t res}(hh:Qa t=some res):Cu t res:=(D14).1 _ _ hh
mutual
def Ra (t:E0):Option Int:=
 H9 t 0 0
 partial_fixpoint
def H9 (t:E0)(d:Int)(i:Int):Option Int:=
 if (decide (i < ((t.Of).length:Int)))=true then
  idx t.Of i>>=fun x1=>
  Ra x1>>=fun x2=>
  if (decide (x2 > d))=true then
   H9 t x2 (IntKind.i64.wrap (i+1))
  else
   H9 t d (IntKind.i64.wrap (i+1))
 else
  some (IntKind.i64.wrap (d+1))
 partial_fixpoint
end
abbrev Du (t:E0)(res:Int):Prop:=P0 C 137 [.agg (E0.cells t)] [] (Ret [] (.d (.int .i64 res)))
abbrev Y11 (t:E0)(d:Int)(i:Int)(res:Int):Prop:=LM C 25 0 Tryz.f137 [1,1,0,1,4] [(1,.ref 0 0),(3,.d (.int .i64 d)),(4,.d (.int .i64 i))] [.row (E0.cells t) 36] (Ret [] (.d (.int .i64 res)))
theorem E14:(∀ t res,Ra t=some res→Du t res)∧(∀ t d i res,H9 t d i=some res→Y11 t d i res):=by
 refine Ra.mutual_partial_correctness _ _ ?_ ?_
 ·intro g1 ih1 t res hh
  exact P0.intro hC Tryz.func137 rfl rfl rfl (s' rfl rfl (F0.n hC rfl (e' rfl (t' rfl (S' (t' rfl (bk' (fq (ih1 _ _ _ _ hh) rfl))))))))
 ·intro g0 g1 ih0 ih1 t d i res hh
  refine X0.unroll (S' (p' 3 rfl (qe' rfl trivial (E0.lenA _) (e' rfl (ci' rfl hh (fun hh=>?_) (fun hh=>?_))))))
  ·obtain ⟨x1,hx1,hh⟩:=bs' hh
   obtain ⟨x2,hx2,hh⟩:=bs' hh
   refine sk' (S' (bk' (p' 3 rfl (i' rfl (Z0 hx1) (E0.idx hx1) rfl (q' rfl (cq (ih0 _ _ hx2) rfl (e' rfl (t' rfl (ci' rfl hh (fun hh=>?_) (fun hh=>?_))))))))))
   ·exact T' rfl (T' rfl (lq (ih1 _ _ _ _ hh) rfl))
   exact sk' (T' rfl (lq (ih1 _ _ _ _ hh) rfl))
  cases hh
  exact ex' (t' rfl (re' (rq rfl)))
theorem Y15 {t res}(hh:Ra t=some res):Du t res:=(E14).1 _ _ hh
def Hk (s:R0)(t:E0)(used:Bool):Option R0:=
 (if (!used)=true then Ri t else some default)>>=fun x1=>
 if (bif (!used) then x1 else false)=true then
  some s
 else
  Qa t>>=fun x2=>
  Ra t>>=fun x3=>
  C8 (R0.mk (IntKind.i64.wrap (s.nodes+x2)) s.depth) x3>>=fun x4=>
  some x4
theorem N19 {s t used res}(hh:Hk s t used=some res):P0 C 79 [.agg (R0.cells s),.agg (E0.cells t),.d (.bool used)] [] (Ret [] (.agg (R0.cells res))):=by
 unfold Hk at hh
 obtain ⟨x1,hx1,hh⟩:=bs' hh
 refine P0.intro hC Tryz.func79 rfl rfl rfl (s' rfl rfl (F0.n hC rfl (F0.n hC rfl (F0.n hC rfl (n' (S' (sg' 6 rfl (G' 4 rfl (AG.c rfl rfl (fun hg=>⟨hg,trivial⟩) (fun hw=>A18 (V1 hw hx1)) (pa' rfl (an' (n' (ci' rfl hh (fun hh=>?_) (fun hh=>?_))))))))))))))
 ·cases hh
  exact p' 1 rfl (F0.s hC rfl (n' (re' (rq rfl))))
 obtain ⟨x2,hx2,hh⟩:=bs' hh
 obtain ⟨x3,hx3,hh⟩:=bs' hh
 obtain ⟨x4,hx4,hh⟩:=bs' hh
 cases hh
 refine sk' (S' (AEx.draw hC 6 rfl rfl rfl (O' 3 rfl (Qc' (X15 hx2) rfl rfl (E' rfl (F0.s hC rfl (n' (S' (AEx.draw hC 4 rfl rfl rfl (O' 2 rfl (Qc' (Y15 hx3) rfl rfl (Qc' (Wj hx4) rfl rfl (Qn' ?_)))))))))))))
 exact F0.s hC rfl (n' (re' (rq rfl)))
mutual
def Jc (t:E0):Option Bool:=
 if (bif (decide (t.Kind < 0)) then true else (decide (t.Kind > 4)))=true then
  some false
 else
  if (bif (bif (bif (bif (t.Kind != 1) then (bif (t.Low != 0) then true else (t.High != 0)) else false) then true else (bif (t.Kind != 2) then (t.Size != 0) else false)) then true else (bif (t.Kind != 4) then (!(t.Name == [])) else false)) then true else (bif (t.Kind != 3) then (((t.Names).length:Int) != 0) else false))=true then
   some false
  else
   if (bif (bif (bif (t.Kind == 2) then (((t.Of).length:Int) != 1) else false) then true else (bif (t.Kind == 3) then (bif (decide (((t.Of).length:Int) < 1)) then true else (((t.Of).length:Int) != ((t.Names).length:Int))) else false)) then true else (bif (bif (t.Kind != 2) then (t.Kind != 3) else false) then (((t.Of).length:Int) != 0) else false))=true then
    some false
   else
    Gd t 0
 partial_fixpoint
def Gd (t:E0)(i:Int):Option Bool:=
 if (decide (i < ((t.Of).length:Int)))=true then
  idx t.Of i>>=fun x1=>
  Jc x1>>=fun x2=>
  if (!x2)=true then
   some false
  else
   Gd t (IntKind.i64.wrap (i+1))
 else
  some true
 partial_fixpoint
end
abbrev Aw (t:E0)(res:Bool):Prop:=P0 C 80 [.agg (E0.cells t)] [] (Ret [] (.d (.bool res)))
abbrev F14 (t:E0)(i:Int)(res:Bool):Prop:=LM C 115 0 Tryz.f80 [1,1,1,1,0,1,4] [(1,.ref 0 0),(3,.d (.int .i64 i))] [.row (E0.cells t) 36] (Ret [] (.d (.bool res)))
theorem Z15:(∀ t res,Jc t=some res→Aw t res)∧(∀ t i res,Gd t i=some res→F14 t i res):=by
 refine Jc.mutual_partial_correctness _ _ ?_ ?_
 ·intro g1 ih1 t res hh
  refine P0.intro hC Tryz.func80 rfl rfl rfl (s' rfl rfl (F0.n hC rfl (e' rfl (S' (sg' 8 rfl (G' 5 rfl (a1' rfl (a1' rfl (po' rfl (an' (n' (ci' rfl hh (fun hh=>?_) (fun hh=>?_)))))))))))))
  ·cases hh
   exact t' rfl (re' (rq rfl))
  refine sk' (S' (sg' 44 rfl (G' 5 rfl (a1' rfl (a1' rfl (a1' rfl (a0' rfl (a1' rfl (a1' rfl (pO' rfl (pa' rfl (G' 2 rfl (a1' rfl ?_)))))))))))))
  refine a1' rfl (a1' rfl (a0' rfl (a1' rfl (a1' rfl (pA' rfl (po' rfl (G' 2 rfl (a1' rfl (a1' rfl (a1' rfl (a0' rfl (a1' rfl (a1' rfl ?_)))))))))))))
  refine pA' rfl (po' rfl (G' 2 rfl (a1' rfl (a1' rfl (a1' rfl (a0' rfl (a1' rfl (AG.qe hC rfl (fun hg=>⟨⟨hg,trivial⟩,trivial⟩) (estr.lenA _) (a1' rfl (pA' rfl (po' rfl (an' (n' (ci' rfl hh (fun hh=>?_) (fun hh=>?_)))))))))))))))
  ·cases hh
   exact t' rfl (re' (rq rfl))
  refine sk' (S' (sg' 45 rfl (G' 5 rfl (a1' rfl (AG.qe hC rfl (fun hg=>⟨⟨hg,trivial⟩,trivial⟩) (E0.lenA _) (a1' rfl (pa' rfl (G' 2 rfl (a1' rfl (a1' rfl (a1' rfl (a0' rfl (a1' rfl ?_)))))))))))))
  refine AG.qe hC rfl (fun hg=>⟨⟨hg,trivial⟩,trivial⟩) (E0.lenA _) (a1' rfl (a1' rfl (a0' rfl (a1' rfl (AG.qe hC rfl (fun hg=>⟨⟨hg,trivial⟩,trivial⟩) (E0.lenA _) (a0' rfl (a1' rfl (AG.qe hC rfl (fun hg=>⟨⟨hg,trivial⟩,trivial⟩) (estr.lenA _) (a2' rfl (pO' rfl (pA' rfl (po' rfl (G' 2 rfl ?_)))))))))))))
  refine a1' rfl (a1' rfl (a1' rfl (a0' rfl (a1' rfl (a1' rfl (pA' rfl (a1' rfl (a0' rfl (a1' rfl (AG.qe hC rfl (fun hg=>⟨⟨hg,trivial⟩,trivial⟩) (E0.lenA _) (a1' rfl (pA' rfl (po' rfl ?_)))))))))))))
  refine an' (n' (ci' rfl hh (fun hh=>?_) (fun hh=>?_)))
  ·cases hh
   exact t' rfl (re' (rq rfl))
  exact sk' (S' (t' rfl (bk' (fq (ih1 _ _ _ hh) rfl))))
 ·intro g0 g1 ih0 ih1 t i res hh
  refine X0.unroll (S' (p' 3 rfl (qe' rfl trivial (E0.lenA _) (e' rfl (ci' rfl hh (fun hh=>?_) (fun hh=>?_))))))
  ·obtain ⟨x1,hx1,hh⟩:=bs' hh
   obtain ⟨x2,hx2,hh⟩:=bs' hh
   refine sk' (S' (bk' (p' 3 rfl (i' rfl (Z0 hx1) (E0.idx hx1) rfl (q' rfl (cq (ih0 _ _ hx2) rfl (e' rfl (ci' rfl hh (fun hh=>?_) (fun hh=>?_)))))))))
   ·cases hh
    exact t' rfl (re' (rq rfl))
   exact sk' (T' rfl (lq (ih1 _ _ _ hh) rfl))
  cases hh
  exact ex' (t' rfl (re' (rq rfl)))
theorem B18 {t res}(hh:Jc t=some res):Aw t res:=(Z15).1 _ _ hh
mutual
def Sa (t:E0):Option Bool:=
 (if (t.Kind == 4)=true then Ad t.Name else some default)>>=fun x1=>
 if (bif (t.Kind == 4) then (!x1) else false)=true then
  some false
 else
  Kc t 0
 partial_fixpoint
def Kc (t:E0)(i:Int):Option Bool:=
 if (decide (i < ((t.Names).length:Int)))=true then
  idx t.Names i>>=fun x2=>
  Ad x2>>=fun x3=>
  if (!x3)=true then
   some false
  else
   Kc t (IntKind.i64.wrap (i+1))
 else
  I9 t 0
 partial_fixpoint
def I9 (t:E0)(i1:Int):Option Bool:=
 if (decide (i1 < ((t.Of).length:Int)))=true then
  idx t.Of i1>>=fun x4=>
  Sa x4>>=fun x5=>
  if (!x5)=true then
   some false
  else
   I9 t (IntKind.i64.wrap (i1+1))
 else
  some true
 partial_fixpoint
end
abbrev Eu (t:E0)(res:Bool):Prop:=P0 C 81 [.agg (E0.cells t)] [] (Ret [] (.d (.bool res)))
abbrev Z11 (t:E0)(i:Int)(res:Bool):Prop:=LM C 42 0 Tryz.f81 [1,1,0,1,4] [(1,.ref 0 0),(3,.d (.int .i64 i))] [.row (E0.cells t) 36] (Ret [] (.d (.bool res)))
abbrev A12 (t:E0)(i1:Int)(res:Bool):Prop:=LM C 42 0 Tryz.f81 [1,1,1,0,1,4] [(1,.ref 0 0),(4,.d (.int .i64 i1))] [.row (E0.cells t) 36] (Ret [] (.d (.bool res)))
theorem G14:(∀ t res,Sa t=some res→Eu t res)∧(∀ t i res,Kc t i=some res→Z11 t i res)∧(∀ t i1 res,I9 t i1=some res→A12 t i1 res):=by
 refine Sa.mutual_partial_correctness _ _ _ ?_ ?_ ?_
 ·intro g1 ih1 t res hh
  obtain ⟨x1,hx1,hh⟩:=bs' hh
  refine P0.intro hC Tryz.func81 rfl rfl rfl (s' rfl rfl (F0.n hC rfl (e' rfl (S' (sg' 9 rfl (G' 5 rfl (a1' rfl (AG.c rfl rfl (fun hg=>⟨hg,trivial⟩) (fun hw=>Kh (V1 hw hx1)) (a1' rfl (pa' rfl (an' (n' (ci' rfl hh (fun hh=>?_) (fun hh=>?_))))))))))))))
  ·cases hh
   exact t' rfl (re' (rq rfl))
  exact sk' (S' (t' rfl (bk' (fq (ih1 _ _ _ hh) rfl))))
 ·intro g1 g2 ih1 ih2 t i res hh
  refine X0.unroll (S' (p' 3 rfl (qe' rfl trivial (estr.lenA _) (e' rfl (ci' rfl hh (fun hh=>?_) (fun hh=>?_))))))
  ·obtain ⟨x2,hx2,hh⟩:=bs' hh
   obtain ⟨x3,hx3,hh⟩:=bs' hh
   refine sk' (S' (bk' (p' 3 rfl (i' rfl (Z0 hx2) (estr.idx hx2) rfl (q' rfl (cq (Kh hx3) rfl (e' rfl (ci' rfl hh (fun hh=>?_) (fun hh=>?_)))))))))
   ·cases hh
    exact t' rfl (re' (rq rfl))
   exact sk' (T' rfl (lq (ih1 _ _ _ hh) rfl))
  exact ex' (S' (t' rfl (bk' (fq (ih2 _ _ _ hh) rfl))))
 ·intro g0 g2 ih0 ih2 t i1 res hh
  refine X0.unroll (S' (p' 3 rfl (qe' rfl trivial (E0.lenA _) (e' rfl (ci' rfl hh (fun hh=>?_) (fun hh=>?_))))))
  ·obtain ⟨x4,hx4,hh⟩:=bs' hh
   obtain ⟨x5,hx5,hh⟩:=bs' hh
   refine sk' (S' (bk' (p' 3 rfl (i' rfl (Z0 hx4) (E0.idx hx4) rfl (q' rfl (cq (ih0 _ _ hx5) rfl (e' rfl (ci' rfl hh (fun hh=>?_) (fun hh=>?_)))))))))
   ·cases hh
    exact t' rfl (re' (rq rfl))
   exact sk' (T' rfl (lq (ih2 _ _ _ hh) rfl))
  cases hh
  exact ex' (t' rfl (re' (rq rfl)))
theorem A16 {t res}(hh:Sa t=some res):Eu t res:=(G14).1 _ _ hh
def Te (n:Int):Option Bool:=
 some (bif (decide (n≥(-1048576))) then (decide (n≤1048576)) else false)
theorem Mh {n res}(hh:Te n=some res):P0 C 138 [.d (.int .i64 n)] [] (Ret [] (.d (.bool res))):=by
 unfold Te at hh
 cases hh
 exact P0.intro hC Tryz.func138 rfl rfl rfl (t' rfl (sg' 7 rfl (G' 4 rfl (a1' rfl (pa' rfl (a0' rfl (an' (n' (re' (rq rfl))))))))))
mutual
def D8 (t:E0):Option Bool:=
 (if (t.Kind == 1)=true then Te t.Low else some default)>>=fun x1=>
 (if ((t.Kind == 1)&&(!(!x1)))=true then Te t.High else some default)>>=fun x2=>
 if (bif (bif (bif (t.Kind == 1) then (bif (bif (!x1) then true else (!x2)) then true else (decide (t.Low > t.High))) else false) then true else (bif (t.Kind == 2) then (bif (decide (t.Size < 1)) then true else (decide (t.Size > 32))) else false)) then true else (decide (((t.Of).length:Int) > 32)))=true then
  some false
 else
  Ea t 0
 partial_fixpoint
def Ea (t:E0)(i:Int):Option Bool:=
 if (decide (i < ((t.Of).length:Int)))=true then
  idx t.Of i>>=fun x3=>
  D8 x3>>=fun x4=>
  if (!x4)=true then
   some false
  else
   Ea t (IntKind.i64.wrap (i+1))
 else
  some true
 partial_fixpoint
end
abbrev Jq (t:E0)(res:Bool):Prop:=P0 C 82 [.agg (E0.cells t)] [] (Ret [] (.d (.bool res)))
abbrev Zy (t:E0)(i:Int)(res:Bool):Prop:=LM C 61 0 Tryz.f82 [1,1,0,1,4] [(1,.ref 0 0),(3,.d (.int .i64 i))] [.row (E0.cells t) 36] (Ret [] (.d (.bool res)))
theorem G10:(∀ t res,D8 t=some res→Jq t res)∧(∀ t i res,Ea t i=some res→Zy t i res):=by
 refine D8.mutual_partial_correctness _ _ ?_ ?_
 ·intro g1 ih1 t res hh
  obtain ⟨x1,hx1,hh⟩:=bs' hh
  obtain ⟨x2,hx2,hh⟩:=bs' hh
  refine P0.intro hC Tryz.func82 rfl rfl rfl (s' rfl rfl (F0.n hC rfl (e' rfl (S' (sg' 43 rfl (G' 5 rfl (a1' rfl (AG.c rfl rfl (fun hg=>⟨hg,trivial⟩) (fun hw=>Mh (V1 hw hx1)) (a1' rfl (a1' rfl (a0' rfl (a1' rfl (AG.c rfl rfl (fun hg=>⟨hg,trivial⟩) (fun hw=>Mh (V1 hw hx2)) ?_)))))))))))))
  refine a1' rfl (pO' rfl (a1' rfl (a0' rfl (a1' rfl (a0' rfl (a1' rfl (a2' rfl (pO' rfl (pa' rfl (G' 2 rfl (a1' rfl (a1' rfl (a1' rfl ?_)))))))))))))
  refine a0' rfl (a1' rfl (a1' rfl (a1' rfl (a0' rfl (a1' rfl (a1' rfl (pO' rfl (pA' rfl (po' rfl (G' 2 rfl (a1' rfl (AG.qe hC rfl (fun hg=>⟨⟨hg,trivial⟩,trivial⟩) (E0.lenA _) (a1' rfl ?_)))))))))))))
  refine po' rfl (an' (n' (ci' rfl hh (fun hh=>?_) (fun hh=>?_))))
  ·cases hh
   exact t' rfl (re' (rq rfl))
  exact sk' (S' (t' rfl (bk' (fq (ih1 _ _ _ hh) rfl))))
 ·intro g0 g1 ih0 ih1 t i res hh
  refine X0.unroll (S' (p' 3 rfl (qe' rfl trivial (E0.lenA _) (e' rfl (ci' rfl hh (fun hh=>?_) (fun hh=>?_))))))
  ·obtain ⟨x3,hx3,hh⟩:=bs' hh
   obtain ⟨x4,hx4,hh⟩:=bs' hh
   refine sk' (S' (bk' (p' 3 rfl (i' rfl (Z0 hx3) (E0.idx hx3) rfl (q' rfl (cq (ih0 _ _ hx4) rfl (e' rfl (ci' rfl hh (fun hh=>?_) (fun hh=>?_)))))))))
   ·cases hh
    exact t' rfl (re' (rq rfl))
   exact sk' (T' rfl (lq (ih1 _ _ _ hh) rfl))
  cases hh
  exact ex' (t' rfl (re' (rq rfl)))
theorem B12 {t res}(hh:D8 t=some res):Jq t res:=(G10).1 _ _ hh
mutual
def Q6 (e:A0)(left:Int):Option Int:=
 Hd e (IntKind.i64.wrap ((IntKind.i64.wrap (left - 1)) - (IntKind.i64.wrap (Int.tdiv ((e.Name).length:Int) 16)))) 0
 partial_fixpoint
def Hd (e:A0)(left1:Int)(i:Int):Option Int:=
 if (bif (decide (i < ((e.Kids).length:Int))) then (decide (left1≥0)) else false)=true then
  idx e.Kids i>>=fun x1=>
  Q6 x1 left1>>=fun x2=>
  Hd e x2 (IntKind.i64.wrap (i+1))
 else
  some left1
 partial_fixpoint
end
abbrev Bw (e:A0)(left:Int)(res:Int):Prop:=P0 C 40 [.agg (A0.cells e),.d (.int .i64 left)] [] (Ret [] (.d (.int .i64 res)))
abbrev H14 (e:A0)(left1:Int)(i:Int)(res:Int):Prop:=LM C 32 0 Tryz.f40 [1,1,0,1,4] [(1,.d (.int .i64 left1)),(2,.ref 0 0),(5,.d (.int .i64 i))] [.row (A0.cells e) 26] (Ret [] (.d (.int .i64 res)))
theorem B16:(∀ e left res,Q6 e left=some res→Bw e left res)∧(∀ e left1 i res,Hd e left1 i=some res→H14 e left1 i res):=by
 refine Q6.mutual_partial_correctness _ _ ?_ ?_
 ·intro g1 ih1 e left res hh
  exact P0.intro hC Tryz.func40 rfl rfl rfl (s' rfl rfl (F0.n hC rfl (e' rfl (p' 5 rfl (qc' rfl (by decide) (e' rfl (S' (t' rfl (bk' (fq (ih1 _ _ _ _ hh) rfl))))))))))
 ·intro g0 g1 ih0 ih1 e left1 i res hh
  refine X0.unroll (S' (sg' 9 rfl (G' 3 rfl (AG.qe hC rfl (fun hg=>⟨trivial,trivial⟩) (A0.lenA _) (G' 3 rfl (a1' rfl (pa' rfl (an' (n' (ci' rfl hh (fun hh=>?_) (fun hh=>?_)))))))))))
  ·obtain ⟨x1,hx1,hh⟩:=bs' hh
   obtain ⟨x2,hx2,hh⟩:=bs' hh
   exact sk' (S' (bk' (P' 3 rfl (i' rfl (Z0 hx1) (A0.idx hx1) rfl (o' 2 rfl (cq (ih0 _ _ _ hx2) rfl (e' rfl (T' rfl (lq (ih1 _ _ _ _ hh) rfl)))))))))
  cases hh
  exact ex' (t' rfl (re' (rq rfl)))
theorem Bi {e left res}(hh:Q6 e left=some res):Bw e left res:=(B16).1 _ _ _ hh
def N3 (n:Int):Option Str:=
 if (decide (n < 0))=true then
  N3 (IntKind.i64.wrap (0 - n))>>=fun x1=>
  if (decide (1+x1.length≤maxLen))=true then
   some ([45]++x1)
  else none
 else
  if (decide (n < 10))=true then
   some (Tk [(IntKind.u8.wrap (IntKind.i64.wrap (48+(Int.tmod n 10))))])
  else
   N3 (IntKind.i64.wrap (Int.tdiv n 10))>>=fun x2=>
   if (decide (x2.length+(Tk [(IntKind.u8.wrap (IntKind.i64.wrap (48+(Int.tmod n 10))))]).length≤maxLen))=true then
    some (x2++(Tk [(IntKind.u8.wrap (IntKind.i64.wrap (48+(Int.tmod n 10))))]))
   else none
 partial_fixpoint
abbrev H10 (n:Int)(res:Str):Prop:=P0 C 83 [.d (.int .i64 n)] [] (Ret [] (.d (.str res)))
theorem O19:(∀ n res,N3 n=some res→H10 n res):=by
 refine N3.partial_correctness _ ?_
 ·intro g0 ih0 n res hh
  refine P0.intro hC Tryz.func83 rfl rfl rfl (t' rfl (S' (t' rfl (ci' rfl hh (fun hh=>?_) (fun hh=>?_)))))
  ·obtain ⟨x1,hx1,hh⟩:=bs' hh
   obtain ⟨c5,hh⟩:=N0 hh
   cases hh
   exact p' 2 rfl (cq (ih0 _ _ hx1) rfl (qc' rfl c5 (e' rfl (re' (rq rfl)))))
  refine sk' (p' 1 rfl (qc' rfl (by decide) (o' 2 rfl (F0.be hC rfl (eu8.rows_map [(IntKind.u8.wrap (IntKind.i64.wrap (48+(Int.tmod n 10))))]).symm (F0.cs hC rfl (xs:=[(IntKind.u8.wrap (IntKind.i64.wrap (48+(Int.tmod n 10))))]) rfl (e' rfl (S' (t' rfl (ci' rfl hh (fun hh=>?_) (fun hh=>?_))))))))))
  ·cases hh
   exact t' rfl (re' (rq rfl))
  obtain ⟨x2,hx2,hh⟩:=bs' hh
  obtain ⟨c6,hh⟩:=N0 hh
  cases hh
  exact sk' (p' 1 rfl (qc' rfl (by decide) (cq (ih0 _ _ hx2) rfl (q' rfl (qc' rfl c6 (e' rfl (re' (rq rfl))))))))
theorem U6 {n res}(hh:N3 n=some res):H10 n res:=(O19) _ _ hh
def Vk (o:Int):Option Int:=
 if (o == 23)=true then
  some 0
 else
  if (o == 20)=true then
   some 1
  else
   if (o == 19)=true then
    some 2
   else
    if (bif (decide (o≥13)) then (decide (o≤18)) else false)=true then
     some 3
    else
     if (bif (o == 8) then true else (o == 9))=true then
      some 4
     else
      if (bif (bif (o == 10) then true else (o == 11)) then true else (o == 12))=true then
       some 5
      else
       if (bif (o == 6) then true else (o == 7))=true then
        some 6
       else
        some 7
theorem I10 {o res}(hh:Vk o=some res):P0 C 85 [.d (.int .i64 o)] [] (Ret [] (.d (.int .i64 res))):=by
 unfold Vk at hh
 refine P0.intro hC Tryz.func85 rfl rfl rfl (t' rfl (S' (t' rfl (ci' rfl hh (fun hh=>?_) (fun hh=>?_)))))
 ·cases hh
  exact t' rfl (re' (rq rfl))
 refine sk' (S' (t' rfl (ci' rfl hh (fun hh=>?_) (fun hh=>?_))))
 ·cases hh
  exact t' rfl (re' (rq rfl))
 refine sk' (S' (t' rfl (ci' rfl hh (fun hh=>?_) (fun hh=>?_))))
 ·cases hh
  exact t' rfl (re' (rq rfl))
 refine sk' (S' (sg' 6 rfl (G' 4 rfl (a1' rfl (pa' rfl (an' (n' (ci' rfl hh (fun hh=>?_) (fun hh=>?_)))))))))
 ·cases hh
  exact t' rfl (re' (rq rfl))
 refine sk' (S' (sg' 6 rfl (G' 4 rfl (a1' rfl (po' rfl (an' (n' (ci' rfl hh (fun hh=>?_) (fun hh=>?_)))))))))
 ·cases hh
  exact t' rfl (re' (rq rfl))
 refine sk' (S' (sg' 10 rfl (G' 4 rfl (a1' rfl (po' rfl (G' 2 rfl (a1' rfl (po' rfl (an' (n' (ci' rfl hh (fun hh=>?_) (fun hh=>?_))))))))))))
 ·cases hh
  exact t' rfl (re' (rq rfl))
 refine sk' (S' (sg' 6 rfl (G' 4 rfl (a1' rfl (po' rfl (an' (n' (ci' rfl hh (fun hh=>?_) (fun hh=>?_)))))))))
 ·cases hh
  exact t' rfl (re' (rq rfl))
 cases hh
 exact sk' (t' rfl (re' (rq rfl)))
def Wu (o:Int):Option Str:=
 idx [[43],[45],[42],[47],[37],[61,61],[33,61],[60],[60,61],[62],[62,61],[38,38],[124,124]] (IntKind.i64.wrap (o - 8))>>=fun x1=>
 some x1
theorem T1f {o res}(hh:Wu o=some res):P0 C 86 [.d (.int .i64 o)] [] (Ret [] (.d (.str res))):=by
 unfold Wu at hh
 obtain ⟨x1,hx1,hh⟩:=bs' hh
 cases hh
 exact P0.intro hC Tryz.func86 rfl rfl rfl (t' rfl (s' rfl rfl (F0.be hC rfl (estr.rows_map [[43],[45],[42],[47],[37],[61,61],[33,61],[60],[60,61],[62],[62,61],[38,38],[124,124]]).symm (e' rfl (p' 3 rfl (i' rfl (Z0 hx1) (estr.idx hx1) rfl (e' rfl (re' (rq rfl)))))))))
mutual
def L1 (e:A0):Option Str:=
 if (e.Op == 0)=true then
  N3 e.NV>>=fun x1=>
  some x1
 else
  if (e.Op == 1)=true then
   some [116,114,117,101]
  else
   if (e.Op == 2)=true then
    some [102,97,108,115,101]
   else
    if (e.Op == 3)=true then
     some e.Name
    else
     if (e.Op == 4)=true then
      idx e.Kids 0>>=fun x2=>
      L1 x2>>=fun x11=>
      if (decide (x11.length+1≤maxLen))=true then
       if (decide ((x11++[46]).length+e.Name.length≤maxLen))=true then
        some ((x11++[46])++e.Name)
       else none
      else none
     else
      if (e.Op == 5)=true then
       idx e.Kids 0>>=fun x3=>
       L1 x3>>=fun x12=>
       if (decide (x12.length+1≤maxLen))=true then
        idx e.Kids 1>>=fun x13=>
        L1 x13>>=fun x14=>
        if (decide ((x12++[91]).length+x14.length≤maxLen))=true then
         if (decide (((x12++[91])++x14).length+1≤maxLen))=true then
          some (((x12++[91])++x14)++[93])
         else none
        else none
       else none
      else
       if (e.Op == 6)=true then
        idx e.Kids 0>>=fun x4=>
        Ij x4 6>>=fun x21=>
        if (decide (1+x21.length≤maxLen))=true then
         some ([45]++x21)
        else none
       else
        if (e.Op == 7)=true then
         idx e.Kids 0>>=fun x5=>
         Ij x5 6>>=fun x22=>
         if (decide (1+x22.length≤maxLen))=true then
          some ([33]++x22)
         else none
        else
         if (e.Op == 21)=true then
          idx e.Kids 0>>=fun x6=>
          L1 x6>>=fun x15=>
          if (decide (4+x15.length≤maxLen))=true then
           if (decide (([109,105,110,40]++x15).length+2≤maxLen))=true then
            idx e.Kids 1>>=fun x16=>
            L1 x16>>=fun x17=>
            if (decide ((([109,105,110,40]++x15)++[44,32]).length+x17.length≤maxLen))=true then
             if (decide (((([109,105,110,40]++x15)++[44,32])++x17).length+1≤maxLen))=true then
              some (((([109,105,110,40]++x15)++[44,32])++x17)++[41])
             else none
            else none
           else none
          else none
         else
          if (e.Op == 22)=true then
           idx e.Kids 0>>=fun x7=>
           L1 x7>>=fun x18=>
           if (decide (4+x18.length≤maxLen))=true then
            if (decide (([109,97,120,40]++x18).length+2≤maxLen))=true then
             idx e.Kids 1>>=fun x19=>
             L1 x19>>=fun x20=>
             if (decide ((([109,97,120,40]++x18)++[44,32]).length+x20.length≤maxLen))=true then
              if (decide (((([109,97,120,40]++x18)++[44,32])++x20).length+1≤maxLen))=true then
               some (((([109,97,120,40]++x18)++[44,32])++x20)++[41])
              else none
             else none
            else none
           else none
          else
           if (e.Op == 23)=true then
            idx e.Kids 0>>=fun x8=>
            Ij x8 1>>=fun x23=>
            if (decide (x23.length+3≤maxLen))=true then
             idx e.Kids 1>>=fun x24=>
             L1 x24>>=fun x25=>
             if (decide ((x23++[32,63,32]).length+x25.length≤maxLen))=true then
              if (decide (((x23++[32,63,32])++x25).length+3≤maxLen))=true then
               idx e.Kids 2>>=fun x26=>
               L1 x26>>=fun x27=>
               if (decide ((((x23++[32,63,32])++x25)++[32,58,32]).length+x27.length≤maxLen))=true then
                some ((((x23++[32,63,32])++x25)++[32,58,32])++x27)
               else none
              else none
             else none
            else none
           else
            Vk e.Op>>=fun x9=>
            if (x9 == 3)=true then
             Pf e x9 4
            else
             Pf e x9 x9
 partial_fixpoint
def Pf (e:A0)(x9:Int)(left:Int):Option Str:=
 idx e.Kids 0>>=fun x10=>
 Ij x10 left>>=fun x28=>
 if (decide (x28.length+1≤maxLen))=true then
  Wu e.Op>>=fun x29=>
  if (decide ((x28++[32]).length+x29.length≤maxLen))=true then
   if (decide (((x28++[32])++x29).length+1≤maxLen))=true then
    idx e.Kids 1>>=fun x30=>
    Ij x30 (IntKind.i64.wrap (x9+1))>>=fun x31=>
    if (decide ((((x28++[32])++x29)++[32]).length+x31.length≤maxLen))=true then
     some ((((x28++[32])++x29)++[32])++x31)
    else none
   else none
  else none
 else none
 partial_fixpoint
def Ij (e:A0)(required:Int):Option Str:=
 Vk e.Op>>=fun x1=>
 if (decide (x1 < required))=true then
  L1 e>>=fun x2=>
  if (decide (1+x2.length≤maxLen))=true then
   if (decide (([40]++x2).length+1≤maxLen))=true then
    some (([40]++x2)++[41])
   else none
  else none
 else
  L1 e>>=fun x3=>
  some x3
 partial_fixpoint
end
abbrev Cw (e:A0)(res:Str):Prop:=P0 C 42 [.agg (A0.cells e)] [] (Ret [] (.d (.str res)))
abbrev I14 (e:A0)(x9:Int)(left:Int)(res:Str):Prop:=JM C 140 0 Tryz.f42 [1,1,1,1,1,1,1,1,1,1,1,1,1,1,1,1] [(1,.ref 0 0),(3,.d (.int .i64 e.Op)),(4,.d (.int .i64 x9)),(5,.d (.int .i64 left))] [.row (A0.cells e) 26] (Ret [] (.d (.str res)))
abbrev O1j (e:A0)(required:Int)(res:Str):Prop:=P0 C 84 [.agg (A0.cells e),.d (.int .i64 required)] [] (Ret [] (.d (.str res)))
theorem C16:(∀ e res,L1 e=some res→Cw e res)∧(∀ e x9 left res,Pf e x9 left=some res→I14 e x9 left res)∧(∀ e required res,Ij e required=some res→O1j e required res):=by
 refine L1.mutual_partial_correctness _ _ _ ?_ ?_ ?_
 ·intro g0 g1 g2 ih0 ih1 ih2 e res hh
  refine P0.intro hC Tryz.func42 rfl rfl rfl (s' rfl rfl (F0.n hC rfl (e' rfl (t' rfl (S' (t' rfl (ci' rfl hh (fun hh=>?_) (fun hh=>?_))))))))
  ·obtain ⟨x1,hx1,hh⟩:=bs' hh
   cases hh
   exact p' 2 rfl (cq (U6 hx1) rfl (e' rfl (re' (rq rfl))))
  refine sk' (S' (t' rfl (ci' rfl hh (fun hh=>?_) (fun hh=>?_))))
  ·cases hh
   exact t' rfl (re' (rq rfl))
  refine sk' (S' (t' rfl (ci' rfl hh (fun hh=>?_) (fun hh=>?_))))
  ·cases hh
   exact t' rfl (re' (rq rfl))
  refine sk' (S' (t' rfl (ci' rfl hh (fun hh=>?_) (fun hh=>?_))))
  ·cases hh
   exact t' rfl (re' (rq rfl))
  refine sk' (S' (t' rfl (ci' rfl hh (fun hh=>?_) (fun hh=>?_))))
  ·obtain ⟨x2,hx2,hh⟩:=bs' hh
   obtain ⟨x11,hx11,hh⟩:=bs' hh
   obtain ⟨c37,hh⟩:=N0 hh
   obtain ⟨c38,hh⟩:=N0 hh
   cases hh
   exact S' (AEx.draw hC 10 rfl rfl rfl (O' 2 rfl (AQ.i hC rfl (Z0 hx2) (A0.idx hx2) rfl (Q' rfl (Qc' (ih0 _ _ hx11) rfl rfl (AQ.q hC rfl c37 (O' 2 rfl (AQ.q hC rfl c38 (E' rfl (n' (re' (rq rfl))))))))))))
  refine sk' (S' (t' rfl (ci' rfl hh (fun hh=>?_) (fun hh=>?_))))
  ·obtain ⟨x3,hx3,hh⟩:=bs' hh
   obtain ⟨x12,hx12,hh⟩:=bs' hh
   obtain ⟨c39,hh⟩:=N0 hh
   obtain ⟨x13,hx13,hh⟩:=bs' hh
   obtain ⟨x14,hx14,hh⟩:=bs' hh
   obtain ⟨c40,hh⟩:=N0 hh
   obtain ⟨c41,hh⟩:=N0 hh
   cases hh
   refine S' (AEx.draw hC 14 rfl rfl rfl (O' 2 rfl (AQ.i hC rfl (Z0 hx3) (A0.idx hx3) rfl (Q' rfl (Qc' (ih0 _ _ hx12) rfl rfl (AQ.q hC rfl c39 (O' 2 rfl (AQ.i hC rfl (Z0 hx13) (A0.idx hx13) rfl (Q' rfl (Qc' (ih0 _ _ hx14) rfl rfl (AQ.q hC rfl c40 (AQ.q hC rfl c41 (E' rfl ?_)))))))))))))
   exact n' (re' (rq rfl))
  refine sk' (S' (t' rfl (ci' rfl hh (fun hh=>?_) (fun hh=>?_))))
  ·obtain ⟨x4,hx4,hh⟩:=bs' hh
   obtain ⟨x21,hx21,hh⟩:=bs' hh
   obtain ⟨c42,hh⟩:=N0 hh
   cases hh
   exact p' 2 rfl (i' rfl (Z0 hx4) (A0.idx hx4) rfl (q' rfl (cq (ih2 _ _ _ hx21) rfl (qc' rfl c42 (e' rfl (re' (rq rfl)))))))
  refine sk' (S' (t' rfl (ci' rfl hh (fun hh=>?_) (fun hh=>?_))))
  ·obtain ⟨x5,hx5,hh⟩:=bs' hh
   obtain ⟨x22,hx22,hh⟩:=bs' hh
   obtain ⟨c43,hh⟩:=N0 hh
   cases hh
   exact p' 2 rfl (i' rfl (Z0 hx5) (A0.idx hx5) rfl (q' rfl (cq (ih2 _ _ _ hx22) rfl (qc' rfl c43 (e' rfl (re' (rq rfl)))))))
  refine sk' (S' (t' rfl (ci' rfl hh (fun hh=>?_) (fun hh=>?_))))
  ·obtain ⟨x6,hx6,hh⟩:=bs' hh
   obtain ⟨x15,hx15,hh⟩:=bs' hh
   obtain ⟨c44,hh⟩:=N0 hh
   obtain ⟨c45,hh⟩:=N0 hh
   obtain ⟨x16,hx16,hh⟩:=bs' hh
   obtain ⟨x17,hx17,hh⟩:=bs' hh
   obtain ⟨c46,hh⟩:=N0 hh
   obtain ⟨c47,hh⟩:=N0 hh
   cases hh
   refine S' (AEx.draw hC 15 rfl rfl rfl (O' 2 rfl (AQ.i hC rfl (Z0 hx6) (A0.idx hx6) rfl (Q' rfl (Qc' (ih0 _ _ hx15) rfl rfl (AQ.q hC rfl c44 (AQ.q hC rfl c45 (O' 2 rfl (AQ.i hC rfl (Z0 hx16) (A0.idx hx16) rfl (Q' rfl (Qc' (ih0 _ _ hx17) rfl rfl (AQ.q hC rfl c46 (AQ.q hC rfl c47 ?_)))))))))))))
   exact E' rfl (n' (re' (rq rfl)))
  refine sk' (S' (t' rfl (ci' rfl hh (fun hh=>?_) (fun hh=>?_))))
  ·obtain ⟨x7,hx7,hh⟩:=bs' hh
   obtain ⟨x18,hx18,hh⟩:=bs' hh
   obtain ⟨c48,hh⟩:=N0 hh
   obtain ⟨c49,hh⟩:=N0 hh
   obtain ⟨x19,hx19,hh⟩:=bs' hh
   obtain ⟨x20,hx20,hh⟩:=bs' hh
   obtain ⟨c50,hh⟩:=N0 hh
   obtain ⟨c51,hh⟩:=N0 hh
   cases hh
   refine S' (AEx.draw hC 15 rfl rfl rfl (O' 2 rfl (AQ.i hC rfl (Z0 hx7) (A0.idx hx7) rfl (Q' rfl (Qc' (ih0 _ _ hx18) rfl rfl (AQ.q hC rfl c48 (AQ.q hC rfl c49 (O' 2 rfl (AQ.i hC rfl (Z0 hx19) (A0.idx hx19) rfl (Q' rfl (Qc' (ih0 _ _ hx20) rfl rfl (AQ.q hC rfl c50 (AQ.q hC rfl c51 ?_)))))))))))))
   exact E' rfl (n' (re' (rq rfl)))
  refine sk' (S' (t' rfl (ci' rfl hh (fun hh=>?_) (fun hh=>?_))))
  ·obtain ⟨x8,hx8,hh⟩:=bs' hh
   obtain ⟨x23,hx23,hh⟩:=bs' hh
   obtain ⟨c52,hh⟩:=N0 hh
   obtain ⟨x24,hx24,hh⟩:=bs' hh
   obtain ⟨x25,hx25,hh⟩:=bs' hh
   obtain ⟨c53,hh⟩:=N0 hh
   obtain ⟨c54,hh⟩:=N0 hh
   obtain ⟨x26,hx26,hh⟩:=bs' hh
   obtain ⟨x27,hx27,hh⟩:=bs' hh
   obtain ⟨c55,hh⟩:=N0 hh
   cases hh
   refine S' (AEx.draw hC 20 rfl rfl rfl (O' 2 rfl (AQ.i hC rfl (Z0 hx8) (A0.idx hx8) rfl (Q' rfl (Qc' (ih2 _ _ _ hx23) rfl rfl (AQ.q hC rfl c52 (O' 2 rfl (AQ.i hC rfl (Z0 hx24) (A0.idx hx24) rfl (Q' rfl (Qc' (ih0 _ _ hx25) rfl rfl (AQ.q hC rfl c53 (AQ.q hC rfl c54 (O' 2 rfl ?_)))))))))))))
   exact AQ.i hC rfl (Z0 hx26) (A0.idx hx26) rfl (Q' rfl (Qc' (ih0 _ _ hx27) rfl rfl (AQ.q hC rfl c55 (E' rfl (n' (re' (rq rfl)))))))
  obtain ⟨x9,hx9,hh⟩:=bs' hh
  refine sk' (p' 1 rfl (cq (I10 hx9) rfl (e' rfl (t' rfl (S' (t' rfl (ci' rfl hh (fun hh=>?_) (fun hh=>?_))))))))
  ·exact T' rfl (eq' (ih1 _ _ _ _ hh) rfl)
  exact sk' (eq' (ih1 _ _ _ _ hh) rfl)
 ·intro g2 ih2 e x9 left res hh
  obtain ⟨x10,hx10,hh⟩:=bs' hh
  obtain ⟨x28,hx28,hh⟩:=bs' hh
  obtain ⟨c56,hh⟩:=N0 hh
  obtain ⟨x29,hx29,hh⟩:=bs' hh
  obtain ⟨c57,hh⟩:=N0 hh
  obtain ⟨c58,hh⟩:=N0 hh
  obtain ⟨x30,hx30,hh⟩:=bs' hh
  obtain ⟨x31,hx31,hh⟩:=bs' hh
  obtain ⟨c59,hh⟩:=N0 hh
  cases hh
  refine S' (AEx.draw hC 20 rfl rfl rfl (O' 2 rfl (AQ.i hC rfl (Z0 hx10) (A0.idx hx10) rfl (O' 2 rfl (Qc' (ih2 _ _ _ hx28) rfl rfl (AQ.q hC rfl c56 (Q' rfl (Qc' (T1f hx29) rfl rfl (AQ.q hC rfl c57 (AQ.q hC rfl c58 (O' 2 rfl (AQ.i hC rfl (Z0 hx30) (A0.idx hx30) rfl (O' 3 rfl ?_)))))))))))))
  exact Qc' (ih2 _ _ _ hx31) rfl rfl (AQ.q hC rfl c59 (E' rfl (n' (re' (rq rfl)))))
 ·intro g0 ih0 e required res hh
  obtain ⟨x1,hx1,hh⟩:=bs' hh
  refine P0.intro hC Tryz.func84 rfl rfl rfl (s' rfl rfl (F0.n hC rfl (e' rfl (S' (p' 2 rfl (cq (I10 hx1) rfl (e' rfl (ci' rfl hh (fun hh=>?_) (fun hh=>?_)))))))))
  ·obtain ⟨x2,hx2,hh⟩:=bs' hh
   obtain ⟨c5,hh⟩:=N0 hh
   obtain ⟨c6,hh⟩:=N0 hh
   cases hh
   exact p' 1 rfl (cq (ih0 _ _ hx2) rfl (qc' rfl c5 (qc' rfl c6 (e' rfl (re' (rq rfl))))))
  obtain ⟨x3,hx3,hh⟩:=bs' hh
  cases hh
  exact sk' (p' 1 rfl (cq (ih0 _ _ hx3) rfl (e' rfl (re' (rq rfl)))))
theorem U5 {e res}(hh:L1 e=some res):Cw e res:=(C16).1 _ _ hh
def Vm (s:Str):Option (Str×Int):=
 if (decide (((s).length:Int) > 8192))=true then
  some ([],5)
 else
  some (s,0)
theorem D1d {s res}(hh:Vm s=some res):P0 C 41 [.d (.str s)] [] (Ret [] (.tup [.d (.str res.1),.d (.int .i64 res.2)])):=by
 unfold Vm at hh
 refine P0.intro hC Tryz.func41 rfl rfl rfl (t' rfl (S' (t' rfl (ci' rfl hh (fun hh=>?_) (fun hh=>?_)))))
 ·cases hh
  exact t' rfl (re' (rq rfl))
 cases hh
 exact sk' (t' rfl (re' (rq rfl)))
mutual
def Fa (t:E0)(left:Int):Option Int:=
 Id t (IntKind.i64.wrap ((IntKind.i64.wrap (left - 1)) - (IntKind.i64.wrap (Int.tdiv ((t.Name).length:Int) 16)))) 0
 partial_fixpoint
def Id (t:E0)(left1:Int)(i:Int):Option Int:=
 if (bif (decide (i < ((t.Names).length:Int))) then (decide (left1≥0)) else false)=true then
  idx t.Names i>>=fun x1=>
  Id t (IntKind.i64.wrap ((IntKind.i64.wrap (left1 - 1)) - (IntKind.i64.wrap (Int.tdiv ((x1).length:Int) 16)))) (IntKind.i64.wrap (i+1))
 else
  Jd t left1 0
 partial_fixpoint
def Jd (t:E0)(left2:Int)(i1:Int):Option Int:=
 if (bif (decide (i1 < ((t.Of).length:Int))) then (decide (left2≥0)) else false)=true then
  idx t.Of i1>>=fun x2=>
  Fa x2 left2>>=fun x3=>
  Jd t x3 (IntKind.i64.wrap (i1+1))
 else
  some left2
 partial_fixpoint
end
abbrev Dw (t:E0)(left:Int)(res:Int):Prop:=P0 C 43 [.agg (E0.cells t),.d (.int .i64 left)] [] (Ret [] (.d (.int .i64 res)))
abbrev J14 (t:E0)(left1:Int)(i:Int)(res:Int):Prop:=LM C 54 0 Tryz.f43 [1,1,0,1,4] [(1,.d (.int .i64 left1)),(2,.ref 0 0),(5,.d (.int .i64 i))] [.row (E0.cells t) 36] (Ret [] (.d (.int .i64 res)))
abbrev K14 (t:E0)(left2:Int)(i1:Int)(res:Int):Prop:=LM C 54 0 Tryz.f43 [1,1,1,0,1,4] [(1,.d (.int .i64 left2)),(2,.ref 0 0),(6,.d (.int .i64 i1))] [.row (E0.cells t) 36] (Ret [] (.d (.int .i64 res)))
theorem D16:(∀ t left res,Fa t left=some res→Dw t left res)∧(∀ t left1 i res,Id t left1 i=some res→J14 t left1 i res)∧(∀ t left2 i1 res,Jd t left2 i1=some res→K14 t left2 i1 res):=by
 refine Fa.mutual_partial_correctness _ _ _ ?_ ?_ ?_
 ·intro g1 ih1 t left res hh
  exact P0.intro hC Tryz.func43 rfl rfl rfl (s' rfl rfl (F0.n hC rfl (e' rfl (p' 5 rfl (qc' rfl (by decide) (e' rfl (S' (t' rfl (bk' (fq (ih1 _ _ _ _ hh) rfl))))))))))
 ·intro g1 g2 ih1 ih2 t left1 i res hh
  refine X0.unroll (S' (sg' 9 rfl (G' 3 rfl (AG.qe hC rfl (fun hg=>⟨trivial,trivial⟩) (estr.lenA _) (G' 3 rfl (a1' rfl (pa' rfl (an' (n' (ci' rfl hh (fun hh=>?_) (fun hh=>?_)))))))))))
  ·obtain ⟨x1,hx1,hh⟩:=bs' hh
   exact sk' (S' (bk' (P' 5 rfl (i' rfl (Z0 hx1) (estr.idx hx1) rfl (o' 2 rfl (qc' rfl (by decide) (e' rfl (T' rfl (lq (ih1 _ _ _ _ hh) rfl)))))))))
  exact ex' (S' (t' rfl (bk' (fq (ih2 _ _ _ _ hh) rfl))))
 ·intro g0 g2 ih0 ih2 t left2 i1 res hh
  refine X0.unroll (S' (sg' 9 rfl (G' 3 rfl (AG.qe hC rfl (fun hg=>⟨trivial,trivial⟩) (E0.lenA _) (G' 3 rfl (a1' rfl (pa' rfl (an' (n' (ci' rfl hh (fun hh=>?_) (fun hh=>?_)))))))))))
  ·obtain ⟨x2,hx2,hh⟩:=bs' hh
   obtain ⟨x3,hx3,hh⟩:=bs' hh
   exact sk' (S' (bk' (P' 3 rfl (i' rfl (Z0 hx2) (E0.idx hx2) rfl (o' 2 rfl (cq (ih0 _ _ _ hx3) rfl (e' rfl (T' rfl (lq (ih2 _ _ _ _ hh) rfl)))))))))
  cases hh
  exact ex' (t' rfl (re' (rq rfl)))
theorem C18 {t left res}(hh:Fa t left=some res):Dw t left res:=(D16).1 _ _ _ hh
mutual
def T2 (t:E0):Option Str:=
 if (t.Kind == 1)=true then
  N3 t.Low>>=fun x1=>
  if (decide (4+x1.length≤maxLen))=true then
   if (decide (([105,110,116,91]++x1).length+2≤maxLen))=true then
    N3 t.High>>=fun x2=>
    if (decide ((([105,110,116,91]++x1)++[46,46]).length+x2.length≤maxLen))=true then
     if (decide (((([105,110,116,91]++x1)++[46,46])++x2).length+1≤maxLen))=true then
      some (((([105,110,116,91]++x1)++[46,46])++x2)++[93])
     else none
    else none
   else none
  else none
 else
  if (t.Kind == 2)=true then
   N3 t.Size>>=fun x3=>
   if (decide (6+x3.length≤maxLen))=true then
    if (decide (([97,114,114,97,121,32]++x3).length+4≤maxLen))=true then
     idx t.Of 0>>=fun x4=>
     T2 x4>>=fun x7=>
     if (decide ((([97,114,114,97,121,32]++x3)++[32,111,102,32]).length+x7.length≤maxLen))=true then
      some ((([97,114,114,97,121,32]++x3)++[32,111,102,32])++x7)
     else none
    else none
   else none
  else
   if (t.Kind == 4)=true then
    some t.Name
   else
    if (t.Kind == 3)=true then
     Kd t [114,101,99,111,114,100,32,123] 0
    else
     some [98,111,111,108]
 partial_fixpoint
def Kd (t:E0)(s:Str)(i:Int):Option Str:=
 if (decide (i < ((t.Of).length:Int)))=true then
  if (decide (i > 0))=true then
   if (decide (s.length+2≤maxLen))=true then
    Qf t (s++[44,32]) i
   else none
  else
   Qf t s i
 else
  if (decide (s.length+1≤maxLen))=true then
   some (s++[125])
  else none
 partial_fixpoint
def Qf (t:E0)(s1:Str)(i1:Int):Option Str:=
 idx t.Names i1>>=fun x5=>
 if (decide (s1.length+x5.length≤maxLen))=true then
  if (decide ((s1++x5).length+2≤maxLen))=true then
   idx t.Of i1>>=fun x6=>
   T2 x6>>=fun x8=>
   if (decide (((s1++x5)++[58,32]).length+x8.length≤maxLen))=true then
    Kd t (((s1++x5)++[58,32])++x8) (IntKind.i64.wrap (i1+1))
   else none
  else none
 else none
 partial_fixpoint
end
abbrev Ew (t:E0)(res:Str):Prop:=P0 C 44 [.agg (E0.cells t)] [] (Ret [] (.d (.str res)))
abbrev L14 (t:E0)(s:Str)(i:Int)(res:Str):Prop:=LM C 68 0 Tryz.f44 [1,1,1,1,0,1,2,1,0,1,4] [(1,.ref 0 0),(3,.d (.str s)),(4,.d (.int .i64 i))] [.row (E0.cells t) 36] (Ret [] (.d (.str res)))
abbrev M14 (t:E0)(s1:Str)(i1:Int)(res:Str):Prop:=JM C 68 0 Tryz.f44 [1,1,1,1,0,1,2,1,0,1,4,5,1,0,4,1] [(1,.ref 0 0),(3,.d (.str s1)),(4,.d (.int .i64 i1))] [.row (E0.cells t) 36] (Ret [] (.d (.str res)))
theorem E16:(∀ t res,T2 t=some res→Ew t res)∧(∀ t s i res,Kd t s i=some res→L14 t s i res)∧(∀ t s1 i1 res,Qf t s1 i1=some res→M14 t s1 i1 res):=by
 refine T2.mutual_partial_correctness _ _ _ ?_ ?_ ?_
 ·intro g0 g1 ih0 ih1 t res hh
  refine P0.intro hC Tryz.func44 rfl rfl rfl (s' rfl rfl (F0.n hC rfl (e' rfl (S' (t' rfl (ci' rfl hh (fun hh=>?_) (fun hh=>?_)))))))
  ·obtain ⟨x1,hx1,hh⟩:=bs' hh
   obtain ⟨c74,hh⟩:=N0 hh
   obtain ⟨c75,hh⟩:=N0 hh
   obtain ⟨x2,hx2,hh⟩:=bs' hh
   obtain ⟨c76,hh⟩:=N0 hh
   obtain ⟨c77,hh⟩:=N0 hh
   cases hh
   exact S' (AEx.draw hC 11 rfl rfl rfl (O' 2 rfl (Qc' (U6 hx1) rfl rfl (AQ.q hC rfl c74 (AQ.q hC rfl c75 (O' 2 rfl (Qc' (U6 hx2) rfl rfl (AQ.q hC rfl c76 (AQ.q hC rfl c77 (E' rfl (n' (re' (rq rfl)))))))))))))
  refine sk' (S' (t' rfl (ci' rfl hh (fun hh=>?_) (fun hh=>?_))))
  ·obtain ⟨x3,hx3,hh⟩:=bs' hh
   obtain ⟨c78,hh⟩:=N0 hh
   obtain ⟨c79,hh⟩:=N0 hh
   obtain ⟨x4,hx4,hh⟩:=bs' hh
   obtain ⟨x7,hx7,hh⟩:=bs' hh
   obtain ⟨c80,hh⟩:=N0 hh
   cases hh
   exact S' (AEx.draw hC 12 rfl rfl rfl (O' 2 rfl (Qc' (U6 hx3) rfl rfl (AQ.q hC rfl c78 (AQ.q hC rfl c79 (O' 2 rfl (AQ.i hC rfl (Z0 hx4) (E0.idx hx4) rfl (Q' rfl (Qc' (ih0 _ _ hx7) rfl rfl (AQ.q hC rfl c80 (E' rfl (n' (re' (rq rfl))))))))))))))
  refine sk' (S' (t' rfl (ci' rfl hh (fun hh=>?_) (fun hh=>?_))))
  ·cases hh
   exact t' rfl (re' (rq rfl))
  refine sk' (S' (t' rfl (ci' rfl hh (fun hh=>?_) (fun hh=>?_))))
  ·exact t' rfl (S' (t' rfl (bk' (fq (ih1 _ _ _ _ hh) rfl))))
  cases hh
  exact sk' (t' rfl (re' (rq rfl)))
 ·intro g2 ih2 t s i res hh
  refine X0.unroll (S' (p' 3 rfl (qe' rfl trivial (E0.lenA _) (e' rfl (ci' rfl hh (fun hh=>?_) (fun hh=>?_))))))
  ·refine sk' (S' (bk' (S' (t' rfl (ci' rfl hh (fun hh=>?_) (fun hh=>?_))))))
   ·obtain ⟨c81,hh⟩:=N0 hh
    exact P' 1 rfl (qc' rfl c81 (e' rfl (eq' (ih2 _ _ _ _ hh) rfl)))
   exact sk' (eq' (ih2 _ _ _ _ hh) rfl)
  obtain ⟨c82,hh⟩:=N0 hh
  cases hh
  exact ex' (p' 1 rfl (qc' rfl c82 (e' rfl (re' (rq rfl)))))
 ·intro g0 g1 ih0 ih1 t s1 i1 res hh
  obtain ⟨x5,hx5,hh⟩:=bs' hh
  obtain ⟨c83,hh⟩:=N0 hh
  obtain ⟨c84,hh⟩:=N0 hh
  obtain ⟨x6,hx6,hh⟩:=bs' hh
  obtain ⟨x8,hx8,hh⟩:=bs' hh
  obtain ⟨c85,hh⟩:=N0 hh
  exact AEx.draw hC 16 rfl rfl rfl (O' 4 rfl (AQ.i hC rfl (Z0 hx5) (estr.idx hx5) rfl (Q' rfl (AQ.q hC rfl c83 (AQ.q hC rfl c84 (O' 3 rfl (AQ.i hC rfl (Z0 hx6) (E0.idx hx6) rfl (Q' rfl (Qc' (ih0 _ _ hx8) rfl rfl (AQ.q hC rfl c85 (E' rfl (n' (T' rfl (lq (ih1 _ _ _ _ hh) rfl))))))))))))))
theorem E8 {t res}(hh:T2 t=some res):Ew t res:=(E16).1 _ _ hh
def S2 (kind:Int)(parserParser:D0):Option (Pn (C0×D0)):=
 Y2 parserParser>>=fun x1=>match x1 with
 | .pn nn=>
 some (.pn nn)
 | .ok x1=>
 U0 [58] x1.2>>=fun x2=>match x2 with
 | .pn nn=>
 some (.pn nn)
 | .ok x2=>
 T4 x2>>=fun x3=>match x3 with
 | .pn nn=>
 some (.pn nn)
 | .ok x3=>
 some (.ok ((C0.mk kind x1.1 x3.1 0 (A0.mk 0 0 [] []) [] [] []),x3.2))
theorem A1 {kind parserParser res}(hh:S2 kind parserParser=some res):C2 C 139 [.ref 0 0,.d (.int .i64 kind)] [.row (D0.cells parserParser) 99] (F4 res (fun rr=>[.row (D0.cells rr.2) 99]) (fun rr=>.agg (C0.cells rr.1))) (D4 res B3 [.dead]):=by
 unfold S2 at hh
 refine C2.intro hC Tryz.func139 rfl rfl rfl (s' rfl rfl (F0.nf hC rfl (n' (p' 1 rfl ?_))))
 rcases bp' hh with ⟨nn,hx1,⟨⟩⟩ | ⟨x1,hx1,hh⟩
 ·exact gr [0] (E1 hx1) rfl (peW ⟨trivial,trivial⟩ rfl)
 refine gq [0] ((E1 hx1).ok) rfl (e' rfl (p' 1 rfl ?_))
 rcases bp' hh with ⟨nn,hx2,⟨⟩⟩ | ⟨x2,hx2,hh⟩
 ·exact gr [0] (J0 hx2) rfl (peW ⟨trivial,trivial⟩ rfl)
 refine gq [0] ((J0 hx2).ok) rfl (n' (p' 3 rfl ?_))
 rcases bp' hh with ⟨nn,hx3,⟨⟩⟩ | ⟨x3,hx3,hh⟩
 ·exact gr [0] (Ba hx3) rfl (peW ⟨trivial,trivial⟩ rfl)
 cases hh
 exact gq [0] ((Ba hx3).ok) rfl (q' rfl (F0.s hC rfl (n' (re' (rq rfl)))))
def U7 (parserParser:D0):Option (Pn (C0×D0)):=
 S2 4 parserParser>>=fun x1=>match x1 with
 | .pn nn=>
 some (.pn nn)
 | .ok x1=>
 S0 [61] x1.2>>=fun x2=>
 if x2.1=true then
  S0 [116,114,117,101] x2.2>>=fun x3=>
  if x3.1=true then
   U0 [59] x3.2>>=fun x4=>match x4 with
   | .pn nn=>
   some (.pn nn)
   | .ok x4=>
   some (.ok ((C0.mk x1.1.Kind x1.1.Name x1.1.TypeV 1 x1.1.Value x1.1.Params x1.1.Vars x1.1.Body),x4))
  else
   S0 [102,97,108,115,101] x3.2>>=fun x5=>
   if x5.1=true then
    U0 [59] x5.2>>=fun x4=>match x4 with
    | .pn nn=>
    some (.pn nn)
    | .ok x4=>
    some (.ok (x1.1,x4))
   else
    P2 x5.2>>=fun x6=>match x6 with
    | .pn nn=>
    some (.pn nn)
    | .ok x6=>
    U0 [59] x6.2>>=fun x4=>match x4 with
    | .pn nn=>
    some (.pn nn)
    | .ok x4=>
    some (.ok ((C0.mk x1.1.Kind x1.1.Name x1.1.TypeV x6.1 x1.1.Value x1.1.Params x1.1.Vars x1.1.Body),x4))
 else
  U0 [59] x2.2>>=fun x4=>match x4 with
  | .pn nn=>
  some (.pn nn)
  | .ok x4=>
  some (.ok (x1.1,x4))
theorem B2 {parserParser res}(hh:U7 parserParser=some res):C2 C 140 [.ref 0 0] [.row (D0.cells parserParser) 99] (F4 res (fun rr=>[.row (D0.cells rr.2) 99]) (fun rr=>.agg (C0.cells rr.1))) (D4 res B3 [.dead]):=by
 unfold U7 at hh
 refine C2.intro hC Tryz.func140 rfl rfl rfl (s' rfl rfl (F0.nf hC rfl (n' (p' 1 rfl ?_))))
 rcases bp' hh with ⟨nn,hx1,⟨⟩⟩ | ⟨x1,hx1,hh⟩
 ·exact gr [0] (A1 hx1) rfl (peW ⟨trivial,trivial⟩ rfl)
 obtain ⟨x2,hx2,hh⟩:=bs' hh
 refine gq [0] ((A1 hx1).ok) rfl (F0.nf hC rfl (F0.s hC rfl (n' (S' (p' 1 rfl (gq [0] (T0 hx2) rfl (n' (ci' rfl hh (fun hh=>?_) (fun hh=>?_)))))))))
 ·obtain ⟨x3,hx3,hh⟩:=bs' hh
  refine bk' (p' 1 rfl (gq [0] (T0 hx3) rfl (e' rfl (ci' rfl hh (fun hh=>?_) (fun hh=>?_)))))
  ·refine P' 1 rfl (F0.s hC rfl (n' (p' 1 rfl ?_)))
   rcases bp' hh with ⟨nn,hx4,⟨⟩⟩ | ⟨x4,hx4,hh⟩
   ·exact gr [0] (J0 hx4) rfl (peW ⟨trivial,trivial⟩ rfl)
   cases hh
   exact gq [0] ((J0 hx4).ok) rfl (n' (p' 1 rfl (F0.s hC rfl (n' (re' (rq rfl))))))
  obtain ⟨x5,hx5,hh⟩:=bs' hh
  refine p' 1 rfl (gq [0] (T0 hx5) rfl (e' rfl (ci' rfl hh (fun hh=>?_) (fun hh=>?_))))
  ·refine sk' (p' 1 rfl ?_)
   rcases bp' hh with ⟨nn,hx4,⟨⟩⟩ | ⟨x4,hx4,hh⟩
   ·exact gr [0] (J0 hx4) rfl (peW ⟨trivial,trivial⟩ rfl)
   cases hh
   exact gq [0] ((J0 hx4).ok) rfl (n' (p' 1 rfl (F0.s hC rfl (n' (re' (rq rfl))))))
  refine P' 1 rfl ?_
  rcases bp' hh with ⟨nn,hx6,⟨⟩⟩ | ⟨x6,hx6,hh⟩
  ·exact gr [0] (C1 hx6) rfl (peW ⟨trivial,trivial⟩ rfl)
  refine gq [0] ((C1 hx6).ok) rfl (q' rfl (F0.s hC rfl (n' (p' 1 rfl ?_))))
  rcases bp' hh with ⟨nn,hx4,⟨⟩⟩ | ⟨x4,hx4,hh⟩
  ·exact gr [0] (J0 hx4) rfl (peW ⟨trivial,trivial⟩ rfl)
  cases hh
  exact gq [0] ((J0 hx4).ok) rfl (n' (p' 1 rfl (F0.s hC rfl (n' (re' (rq rfl))))))
 refine sk' (p' 1 rfl ?_)
 rcases bp' hh with ⟨nn,hx4,⟨⟩⟩ | ⟨x4,hx4,hh⟩
 ·exact gr [0] (J0 hx4) rfl (peW ⟨trivial,trivial⟩ rfl)
 cases hh
 exact gq [0] ((J0 hx4).ok) rfl (n' (p' 1 rfl (F0.s hC rfl (n' (re' (rq rfl))))))
def G4 (o0:D0)(x1:A0×D0)(x4:Str×D0)(o2_Args:List A0):Option (Pn (B0×D0)):=
 S0 [44] o0>>=fun x13=>
 if x13.1=true then
  G1 x13.2>>=fun x14=>match x14 with
  | .pn nn=>
  some (.pn nn)
  | .ok x14=>
  if (decide ((o2_Args.length+1) * 57≤140737488355328))=true then
   G4 x14.2 x1 x4 (o2_Args++[x14.1])
  else none
 else
  U0 [41] x13.2>>=fun x8=>match x8 with
  | .pn nn=>
  some (.pn nn)
  | .ok x8=>
  U0 [59] x8>>=fun x9=>match x9 with
  | .pn nn=>
  some (.pn nn)
  | .ok x9=>
  some (.ok ((B0.mk 1 x1.1 (A0.mk 0 0 [] []) x4.1 o2_Args 0 0 0 [] [] []),x9))
 partial_fixpoint
abbrev Xh (o0:D0)(x1:A0×D0)(x4:Str×D0)(o2_Args:List A0)(res:Pn (B0×D0)):Prop:=LMp C 52 1 Tryz.f173 [1,1,1,0,4,1,2,1,1,0,1,2,1,4] [(0,.ref 0 0),(2,.ref 1 0),(3,.ref 2 0)] [.row (D0.cells o0) 99,.row [.d (.int .i64 0),.d (.int .i64 0),.d (.int .i64 0),.d (.str []),.full (A0.rows []),.d (.int .i64 0),.d (.int .i64 0),.d (.str []),.full (A0.rows []),.d (.str []),.full (A0.rows []),.d (.int .i64 0),.d (.int .i64 0),.d (.int .i64 0),.full (ei64.rows []),.full (B0.rows []),.full (B0.rows [])] 144,.row [.d (.int .i64 1),.d (.int .i64 x1.1.Op),.d (.int .i64 x1.1.NV),.d (.str x1.1.Name),.d (.sl (A0.rows x1.1.Kids)),.d (.int .i64 0),.d (.int .i64 0),.d (.str []),.full (A0.rows []),.d (.str x4.1),.osl 3 (A0.rows o2_Args),.d (.int .i64 0),.d (.int .i64 0),.d (.int .i64 0),.full (ei64.rows []),.full (B0.rows []),.full (B0.rows [])] 144,.tok 26 4] (F4 res (fun rr=>[.row (D0.cells rr.2) 99]) (fun rr=>.agg (B0.cells rr.1))) (D4 res B3 [.dead])
theorem Lo (x1:A0×D0)(x4:Str×D0):(∀ o0 o2_Args res,G4 o0 x1 x4 o2_Args=some res→Xh o0 x1 x4 o2_Args res):=by
 refine G4.partial_correctness x1 x4 _ ?_
 ·intro g0 ih0 o0 o2_Args res hh
  obtain ⟨x13,hx13,hh⟩:=bs' hh
  refine X0.unroll (S' (p' 1 rfl (gq [0] (T0 hx13) rfl (n' (ci' rfl hh (fun hh=>?_) (fun hh=>?_))))))
  ·refine sk' (bk' ?_)
   rcases bp' hh with ⟨nn,hx14,⟨⟩⟩ | ⟨x14,hx14,hh⟩
   ·refine AEx.drawE hC ?_
    refine st2 0 2 rfl (by kernel_rfl) rfl rfl ?_ ?_
    ·refine e' rfl ?_
     refine st2 1 2 rfl (by kernel_rfl) rfl rfl ?_ ?_
     ·refine e' rfl ?_
      refine st1 2 rfl (by kernel_rfl) rfl ?_
      refine e' rfl ?_
      refine st1 3 rfl (by kernel_rfl) rfl ?_
      exact gr [0] (V0 hx14) rfl (peW ⟨trivial,trivial⟩ rfl)
     ·refine e' rfl ?_
      refine st2 1 3 rfl (by kernel_rfl) rfl rfl ?_ ?_
      ·refine e' rfl ?_
       refine st1 3 rfl (by kernel_rfl) rfl ?_
       exact gr [0] (V0 hx14) rfl (peW ⟨trivial,trivial⟩ rfl)
      ·exact gr [0] (V0 hx14) rfl (peW ⟨trivial,trivial⟩ rfl)
    ·refine e' rfl ?_
     refine st2 0 3 rfl (by kernel_rfl) rfl rfl ?_ ?_
     ·refine e' rfl ?_
      refine st2 1 3 rfl (by kernel_rfl) rfl rfl ?_ ?_
      ·refine e' rfl ?_
       refine st1 3 rfl (by kernel_rfl) rfl ?_
       exact gr [0] (V0 hx14) rfl (peW ⟨trivial,trivial⟩ rfl)
      ·exact gr [0] (V0 hx14) rfl (peW ⟨trivial,trivial⟩ rfl)
     ·exact gr [0] (V0 hx14) rfl (peW ⟨trivial,trivial⟩ rfl)
   obtain ⟨c11,hh⟩:=N0 hh
   refine AEx.drawE hC ?_
   refine st2 0 2 rfl (by kernel_rfl) rfl rfl ?_ ?_
   ·refine e' rfl ?_
    refine st2 1 2 rfl (by kernel_rfl) rfl rfl ?_ ?_
    ·refine e' rfl ?_
     refine st1 2 rfl (by kernel_rfl) rfl ?_
     refine e' rfl ?_
     refine st1 3 rfl (by kernel_rfl) rfl ?_
     refine gq [0] ((V0 hx14).ok) rfl (n' ?_)
     refine st1 4 rfl (by kernel_rfl) rfl ?_
     refine F0.be hC rfl (A0.rows_map [x14.1]).symm (n' ?_)
     refine st1 5 rfl (by kernel_rfl) rfl ?_
     refine F0.ap hC rfl (rs:=A0.rows (o2_Args++[x14.1])) (A0.app o2_Args [x14.1]) (A0.sz o2_Args) (A0.sz [x14.1]) (Q1 (A0.len o2_Args) (A0.len [x14.1]) c11) (n' ?_)
     refine st1 6 rfl (by kernel_rfl) rfl ?_
     refine e' rfl ?_
     refine st1 7 rfl (by kernel_rfl) rfl ?_
     exact F0.s hC rfl (n' (W0.nil (by kernel_rfl) (lq (ih0 _ _ _ hh) rfl)))
    ·refine e' rfl ?_
     refine st2 1 3 rfl (by kernel_rfl) rfl rfl ?_ ?_
     ·refine e' rfl ?_
      refine st1 3 rfl (by kernel_rfl) rfl ?_
      refine gq [0] ((V0 hx14).ok) rfl (n' ?_)
      refine st1 4 rfl (by kernel_rfl) rfl ?_
      refine F0.be hC rfl (A0.rows_map [x14.1]).symm (n' ?_)
      refine st1 5 rfl (by kernel_rfl) rfl ?_
      refine F0.ap hC rfl (rs:=A0.rows (o2_Args++[x14.1])) (A0.app o2_Args [x14.1]) (A0.sz o2_Args) (A0.sz [x14.1]) (Q1 (A0.len o2_Args) (A0.len [x14.1]) c11) (n' ?_)
      refine st1 6 rfl (by kernel_rfl) rfl ?_
      refine e' rfl ?_
      refine st1 7 rfl (by kernel_rfl) rfl ?_
      exact F0.s hC rfl (n' (W0.nil (by kernel_rfl) (lq (ih0 _ _ _ hh) rfl)))
     ·refine gq [0] ((V0 hx14).ok) rfl (n' ?_)
      refine st2 1 4 rfl (by kernel_rfl) rfl rfl ?_ ?_
      ·refine e' rfl ?_
       refine st1 4 rfl (by kernel_rfl) rfl ?_
       refine F0.be hC rfl (A0.rows_map [x14.1]).symm (n' ?_)
       refine st1 5 rfl (by kernel_rfl) rfl ?_
       refine F0.ap hC rfl (rs:=A0.rows (o2_Args++[x14.1])) (A0.app o2_Args [x14.1]) (A0.sz o2_Args) (A0.sz [x14.1]) (Q1 (A0.len o2_Args) (A0.len [x14.1]) c11) (n' ?_)
       refine st1 6 rfl (by kernel_rfl) rfl ?_
       refine e' rfl ?_
       refine st1 7 rfl (by kernel_rfl) rfl ?_
       exact F0.s hC rfl (n' (W0.nil (by kernel_rfl) (lq (ih0 _ _ _ hh) rfl)))
      ·refine F0.be hC rfl (A0.rows_map [x14.1]).symm (n' ?_)
       refine st1 1 rfl (by kernel_rfl) rfl ?_
       refine e' rfl ?_
       refine st1 5 rfl (by kernel_rfl) rfl ?_
       refine F0.ap hC rfl (rs:=A0.rows (o2_Args++[x14.1])) (A0.app o2_Args [x14.1]) (A0.sz o2_Args) (A0.sz [x14.1]) (Q1 (A0.len o2_Args) (A0.len [x14.1]) c11) (n' ?_)
       refine st1 6 rfl (by kernel_rfl) rfl ?_
       refine e' rfl ?_
       refine st1 7 rfl (by kernel_rfl) rfl ?_
       exact F0.s hC rfl (n' (W0.nil (by kernel_rfl) (lq (ih0 _ _ _ hh) rfl)))
   ·refine e' rfl ?_
    refine st2 0 3 rfl (by kernel_rfl) rfl rfl ?_ ?_
    ·refine e' rfl ?_
     refine st2 1 3 rfl (by kernel_rfl) rfl rfl ?_ ?_
     ·refine e' rfl ?_
      refine st1 3 rfl (by kernel_rfl) rfl ?_
      refine gq [0] ((V0 hx14).ok) rfl (n' ?_)
      refine st1 4 rfl (by kernel_rfl) rfl ?_
      refine F0.be hC rfl (A0.rows_map [x14.1]).symm (n' ?_)
      refine st1 5 rfl (by kernel_rfl) rfl ?_
      refine F0.ap hC rfl (rs:=A0.rows (o2_Args++[x14.1])) (A0.app o2_Args [x14.1]) (A0.sz o2_Args) (A0.sz [x14.1]) (Q1 (A0.len o2_Args) (A0.len [x14.1]) c11) (n' ?_)
      refine st1 6 rfl (by kernel_rfl) rfl ?_
      refine e' rfl ?_
      refine st1 7 rfl (by kernel_rfl) rfl ?_
      exact F0.s hC rfl (n' (W0.nil (by kernel_rfl) (lq (ih0 _ _ _ hh) rfl)))
     ·refine gq [0] ((V0 hx14).ok) rfl (n' ?_)
      refine st2 1 4 rfl (by kernel_rfl) rfl rfl ?_ ?_
      ·refine e' rfl ?_
       refine st1 4 rfl (by kernel_rfl) rfl ?_
       refine F0.be hC rfl (A0.rows_map [x14.1]).symm (n' ?_)
       refine st1 5 rfl (by kernel_rfl) rfl ?_
       refine F0.ap hC rfl (rs:=A0.rows (o2_Args++[x14.1])) (A0.app o2_Args [x14.1]) (A0.sz o2_Args) (A0.sz [x14.1]) (Q1 (A0.len o2_Args) (A0.len [x14.1]) c11) (n' ?_)
       refine st1 6 rfl (by kernel_rfl) rfl ?_
       refine e' rfl ?_
       refine st1 7 rfl (by kernel_rfl) rfl ?_
       exact F0.s hC rfl (n' (W0.nil (by kernel_rfl) (lq (ih0 _ _ _ hh) rfl)))
      ·refine F0.be hC rfl (A0.rows_map [x14.1]).symm (n' ?_)
       refine st1 1 rfl (by kernel_rfl) rfl ?_
       refine e' rfl ?_
       refine st1 5 rfl (by kernel_rfl) rfl ?_
       refine F0.ap hC rfl (rs:=A0.rows (o2_Args++[x14.1])) (A0.app o2_Args [x14.1]) (A0.sz o2_Args) (A0.sz [x14.1]) (Q1 (A0.len o2_Args) (A0.len [x14.1]) c11) (n' ?_)
       refine st1 6 rfl (by kernel_rfl) rfl ?_
       refine e' rfl ?_
       refine st1 7 rfl (by kernel_rfl) rfl ?_
       exact F0.s hC rfl (n' (W0.nil (by kernel_rfl) (lq (ih0 _ _ _ hh) rfl)))
    ·refine gq [0] ((V0 hx14).ok) rfl (n' ?_)
     refine st2 0 4 rfl (by kernel_rfl) rfl rfl ?_ ?_
     ·refine e' rfl ?_
      refine st2 1 4 rfl (by kernel_rfl) rfl rfl ?_ ?_
      ·refine e' rfl ?_
       refine st1 4 rfl (by kernel_rfl) rfl ?_
       refine F0.be hC rfl (A0.rows_map [x14.1]).symm (n' ?_)
       refine st1 5 rfl (by kernel_rfl) rfl ?_
       refine F0.ap hC rfl (rs:=A0.rows (o2_Args++[x14.1])) (A0.app o2_Args [x14.1]) (A0.sz o2_Args) (A0.sz [x14.1]) (Q1 (A0.len o2_Args) (A0.len [x14.1]) c11) (n' ?_)
       refine st1 6 rfl (by kernel_rfl) rfl ?_
       refine e' rfl ?_
       refine st1 7 rfl (by kernel_rfl) rfl ?_
       exact F0.s hC rfl (n' (W0.nil (by kernel_rfl) (lq (ih0 _ _ _ hh) rfl)))
      ·refine F0.be hC rfl (A0.rows_map [x14.1]).symm (n' ?_)
       refine st1 1 rfl (by kernel_rfl) rfl ?_
       refine e' rfl ?_
       refine st1 5 rfl (by kernel_rfl) rfl ?_
       refine F0.ap hC rfl (rs:=A0.rows (o2_Args++[x14.1])) (A0.app o2_Args [x14.1]) (A0.sz o2_Args) (A0.sz [x14.1]) (Q1 (A0.len o2_Args) (A0.len [x14.1]) c11) (n' ?_)
       refine st1 6 rfl (by kernel_rfl) rfl ?_
       refine e' rfl ?_
       refine st1 7 rfl (by kernel_rfl) rfl ?_
       exact F0.s hC rfl (n' (W0.nil (by kernel_rfl) (lq (ih0 _ _ _ hh) rfl)))
     ·refine F0.be hC rfl (A0.rows_map [x14.1]).symm (n' ?_)
      refine st1 0 rfl (by kernel_rfl) rfl ?_
      refine e' rfl ?_
      refine st1 1 rfl (by kernel_rfl) rfl ?_
      refine e' rfl ?_
      refine st1 5 rfl (by kernel_rfl) rfl ?_
      refine F0.ap hC rfl (rs:=A0.rows (o2_Args++[x14.1])) (A0.app o2_Args [x14.1]) (A0.sz o2_Args) (A0.sz [x14.1]) (Q1 (A0.len o2_Args) (A0.len [x14.1]) c11) (n' ?_)
      refine st1 6 rfl (by kernel_rfl) rfl ?_
      refine e' rfl ?_
      refine st1 7 rfl (by kernel_rfl) rfl ?_
      exact F0.s hC rfl (n' (W0.nil (by kernel_rfl) (lq (ih0 _ _ _ hh) rfl)))
  refine ex' (P' 1 rfl ?_)
  rcases bp' hh with ⟨nn,hx8,⟨⟩⟩ | ⟨x8,hx8,hh⟩
  ·exact gr [0] (J0 hx8) rfl (peW ⟨trivial,trivial⟩ rfl)
  refine gq [0] ((J0 hx8).ok) rfl (n' (p' 1 rfl ?_))
  rcases bp' hh with ⟨nn,hx9,⟨⟩⟩ | ⟨x9,hx9,hh⟩
  ·exact gr [0] (J0 hx9) rfl (peW ⟨trivial,trivial⟩ rfl)
  refine gq [0] ((J0 hx9).ok) rfl (n' (p' 1 rfl (F0.s hC rfl (n' (re' ?_)))))
  obtain rfl:=oi' hh
  exact ⟨_,.agg [.d (.int .i64 1),.d (.int .i64 x1.1.Op),.d (.int .i64 x1.1.NV),.d (.str x1.1.Name),.d (.sl (A0.rows x1.1.Kids)),.d (.int .i64 0),.d (.int .i64 0),.d (.str []),.d (.sl (A0.rows [])),.d (.str x4.1),.d (.sl (A0.rows o2_Args)),.d (.int .i64 0),.d (.int .i64 0),.d (.int .i64 0),.d (.sl (ei64.rows [])),.d (.sl (B0.rows [])),.d (.sl (B0.rows []))],[.row (D0.cells x9) 99],rfl,(.aggL ⟨.rfl,.rfl,.rfl,.rfl,.rfl,.rfl,.rfl,.rfl,.full,.rfl,.osl,.rfl,.rfl,.rfl,.full,.full,.full,trivial⟩),⟨⟨rfl,.refl _,rfl⟩,trivial⟩,rfl,rfl,rpq rfl rfl⟩
theorem Kp {o0 x1 x4 o2_Args res}(hh:G4 o0 x1 x4 o2_Args=some res):Xh o0 x1 x4 o2_Args res:=(Lo x1 x4) _ _ _ hh
def Ta (x7:A0×D0)(x1:A0×D0)(x4:Str×D0):Option (Pn (B0×D0)):=
 G4 x7.2 x1 x4 [x7.1]
theorem N2 {x7 x1 x4 res}(hh:Ta x7 x1 x4=some res):JMp C 52 1 Tryz.f173 [1,1,1,0,4,1,2,1,1,0,1,2,1] [(0,.ref 0 0),(2,.ref 1 0),(3,.ref 2 0)] [.row (D0.cells x7.2) 99,.row [.d (.int .i64 0),.d (.int .i64 0),.d (.int .i64 0),.d (.str []),.full (A0.rows []),.d (.int .i64 0),.d (.int .i64 0),.d (.str []),.full (A0.rows []),.d (.str []),.full (A0.rows []),.d (.int .i64 0),.d (.int .i64 0),.d (.int .i64 0),.full (ei64.rows []),.full (B0.rows []),.full (B0.rows [])] 144,.row [.d (.int .i64 1),.d (.int .i64 x1.1.Op),.d (.int .i64 x1.1.NV),.d (.str x1.1.Name),.d (.sl (A0.rows x1.1.Kids)),.d (.int .i64 0),.d (.int .i64 0),.d (.str []),.full (A0.rows []),.d (.str x4.1),.osl 3 (A0.rows [x7.1]),.d (.int .i64 0),.d (.int .i64 0),.d (.int .i64 0),.full (ei64.rows []),.full (B0.rows []),.full (B0.rows [])] 144,.tok 26 4] (F4 res (fun rr=>[.row (D0.cells rr.2) 99]) (fun rr=>.agg (B0.cells rr.1))) (D4 res B3 [.dead]):=by
 unfold Ta at hh
 exact bk' (fq (Kp hh) rfl)
def J9 (parserParser:D0):Option (Pn (B0×D0)):=
 Za parserParser>>=fun x1=>match x1 with
 | .pn nn=>
 some (.pn nn)
 | .ok x1=>
 U0 [61] x1.2>>=fun x2=>match x2 with
 | .pn nn=>
 some (.pn nn)
 | .ok x2=>
 S0 [99,97,108,108] x2>>=fun x3=>
 if x3.1=true then
  Y2 x3.2>>=fun x4=>match x4 with
  | .pn nn=>
  some (.pn nn)
  | .ok x4=>
  U0 [40] x4.2>>=fun x5=>match x5 with
  | .pn nn=>
  some (.pn nn)
  | .ok x5=>
  Ae [41] x5>>=fun x6=>
  if (!x6)=true then
   G1 x5>>=fun x7=>match x7 with
   | .pn nn=>
   some (.pn nn)
   | .ok x7=>
   if (decide ((0+1) * 57≤140737488355328))=true then
    Ta x7 x1 x4
   else none
  else
   U0 [41] x5>>=fun x8=>match x8 with
   | .pn nn=>
   some (.pn nn)
   | .ok x8=>
   U0 [59] x8>>=fun x9=>match x9 with
   | .pn nn=>
   some (.pn nn)
   | .ok x9=>
   some (.ok ((B0.mk 1 x1.1 (A0.mk 0 0 [] []) x4.1 [] 0 0 0 [] [] []),x9))
 else
  S0 [114,101,108,101,97,115,101] x3.2>>=fun x10=>
  if x10.1=true then
   Y2 x10.2>>=fun x11=>match x11 with
   | .pn nn=>
   some (.pn nn)
   | .ok x11=>
   U0 [59] x11.2>>=fun x9=>match x9 with
   | .pn nn=>
   some (.pn nn)
   | .ok x9=>
   some (.ok ((B0.mk 2 x1.1 (A0.mk 0 0 [] []) x11.1 [] 0 0 0 [] [] []),x9))
  else
   G1 x10.2>>=fun x12=>match x12 with
   | .pn nn=>
   some (.pn nn)
   | .ok x12=>
   U0 [59] x12.2>>=fun x9=>match x9 with
   | .pn nn=>
   some (.pn nn)
   | .ok x9=>
   some (.ok ((B0.mk 0 x1.1 x12.1 [] [] 0 0 0 [] [] []),x9))
theorem Jj {parserParser res}(hh:J9 parserParser=some res):C2 C 173 [.ref 0 0] [.row (D0.cells parserParser) 99] (F4 res (fun rr=>[.row (D0.cells rr.2) 99]) (fun rr=>.agg (B0.cells rr.1))) (D4 res B3 [.dead]):=by
 unfold J9 at hh
 refine C2.intro hC Tryz.func173 rfl rfl rfl (s' rfl rfl (F0.nf hC rfl (n' (p' 1 rfl ?_))))
 rcases bp' hh with ⟨nn,hx1,⟨⟩⟩ | ⟨x1,hx1,hh⟩
 ·exact gr [0] (Um hx1) rfl (peW ⟨trivial,trivial⟩ rfl)
 refine gq [0] ((Um hx1).ok) rfl (F0.bz hC rfl (F0.nf hC rfl (F0.s hC rfl (n' (p' 1 rfl ?_)))))
 rcases bp' hh with ⟨nn,hx2,⟨⟩⟩ | ⟨x2,hx2,hh⟩
 ·exact gr [0] (J0 hx2) rfl (peW ⟨trivial,trivial⟩ rfl)
 obtain ⟨x3,hx3,hh⟩:=bs' hh
 refine gq [0] ((J0 hx2).ok) rfl (n' (S' (bk' (p' 1 rfl (gq [0] (T0 hx3) rfl (e' rfl (ci' rfl hh (fun hh=>?_) (fun hh=>?_))))))))
 ·refine p' 1 rfl ?_
  rcases bp' hh with ⟨nn,hx4,⟨⟩⟩ | ⟨x4,hx4,hh⟩
  ·exact gr [0] (E1 hx4) rfl (peW ⟨trivial,trivial⟩ rfl)
  refine gq [0] ((E1 hx4).ok) rfl (q' rfl (F0.s hC rfl (q' rfl (F0.s hC rfl (n' (p' 1 rfl ?_))))))
  rcases bp' hh with ⟨nn,hx5,⟨⟩⟩ | ⟨x5,hx5,hh⟩
  ·exact gr [0] (J0 hx5) rfl (peW ⟨trivial,trivial⟩ rfl)
  obtain ⟨x6,hx6,hh⟩:=bs' hh
  refine gq [0] ((J0 hx5).ok) rfl (n' (S' (p' 1 rfl (gq [0] (Cq hx6) rfl (e' rfl (ci' rfl hh (fun hh=>?_) (fun hh=>?_)))))))
  ·refine S' ?_
   rcases bp' hh with ⟨nn,hx7,⟨⟩⟩ | ⟨x7,hx7,hh⟩
   ·refine AEx.drawE hC ?_
    refine st2 0 2 rfl (by kernel_rfl) rfl rfl ?_ ?_
    ·refine e' rfl ?_
     refine st2 1 2 rfl (by kernel_rfl) rfl rfl ?_ ?_
     ·refine e' rfl ?_
      refine st1 2 rfl (by kernel_rfl) rfl ?_
      refine e' rfl ?_
      refine st1 3 rfl (by kernel_rfl) rfl ?_
      exact gr [0] (V0 hx7) rfl (peW ⟨trivial,trivial⟩ rfl)
     ·refine e' rfl ?_
      refine st2 1 3 rfl (by kernel_rfl) rfl rfl ?_ ?_
      ·refine e' rfl ?_
       refine st1 3 rfl (by kernel_rfl) rfl ?_
       exact gr [0] (V0 hx7) rfl (peW ⟨trivial,trivial⟩ rfl)
      ·exact gr [0] (V0 hx7) rfl (peW ⟨trivial,trivial⟩ rfl)
    ·refine e' rfl ?_
     refine st2 0 3 rfl (by kernel_rfl) rfl rfl ?_ ?_
     ·refine e' rfl ?_
      refine st2 1 3 rfl (by kernel_rfl) rfl rfl ?_ ?_
      ·refine e' rfl ?_
       refine st1 3 rfl (by kernel_rfl) rfl ?_
       exact gr [0] (V0 hx7) rfl (peW ⟨trivial,trivial⟩ rfl)
      ·exact gr [0] (V0 hx7) rfl (peW ⟨trivial,trivial⟩ rfl)
     ·exact gr [0] (V0 hx7) rfl (peW ⟨trivial,trivial⟩ rfl)
   obtain ⟨c10,hh⟩:=N0 hh
   refine AEx.drawE hC ?_
   refine st2 0 2 rfl (by kernel_rfl) rfl rfl ?_ ?_
   ·refine e' rfl ?_
    refine st2 1 2 rfl (by kernel_rfl) rfl rfl ?_ ?_
    ·refine e' rfl ?_
     refine st1 2 rfl (by kernel_rfl) rfl ?_
     refine e' rfl ?_
     refine st1 3 rfl (by kernel_rfl) rfl ?_
     refine gq [0] ((V0 hx7).ok) rfl (n' ?_)
     refine st1 4 rfl (by kernel_rfl) rfl ?_
     refine F0.be hC rfl (A0.rows_map [x7.1]).symm (n' ?_)
     refine st1 5 rfl (by kernel_rfl) rfl ?_
     refine F0.ap hC rfl (rs:=A0.rows [x7.1]) rfl (A0.sz []) (A0.sz [x7.1]) (Q1 (A0.len []) (A0.len [x7.1]) c10) (n' ?_)
     refine st1 6 rfl (by kernel_rfl) rfl ?_
     refine e' rfl ?_
     refine st1 7 rfl (by kernel_rfl) rfl ?_
     exact F0.s hC rfl (n' (W0.nil (by kernel_rfl) (eq' (N2 hh) rfl)))
    ·refine e' rfl ?_
     refine st2 1 3 rfl (by kernel_rfl) rfl rfl ?_ ?_
     ·refine e' rfl ?_
      refine st1 3 rfl (by kernel_rfl) rfl ?_
      refine gq [0] ((V0 hx7).ok) rfl (n' ?_)
      refine st1 4 rfl (by kernel_rfl) rfl ?_
      refine F0.be hC rfl (A0.rows_map [x7.1]).symm (n' ?_)
      refine st1 5 rfl (by kernel_rfl) rfl ?_
      refine F0.ap hC rfl (rs:=A0.rows [x7.1]) rfl (A0.sz []) (A0.sz [x7.1]) (Q1 (A0.len []) (A0.len [x7.1]) c10) (n' ?_)
      refine st1 6 rfl (by kernel_rfl) rfl ?_
      refine e' rfl ?_
      refine st1 7 rfl (by kernel_rfl) rfl ?_
      exact F0.s hC rfl (n' (W0.nil (by kernel_rfl) (eq' (N2 hh) rfl)))
     ·refine gq [0] ((V0 hx7).ok) rfl (n' ?_)
      refine st2 1 4 rfl (by kernel_rfl) rfl rfl ?_ ?_
      ·refine e' rfl ?_
       refine st1 4 rfl (by kernel_rfl) rfl ?_
       refine F0.be hC rfl (A0.rows_map [x7.1]).symm (n' ?_)
       refine st1 5 rfl (by kernel_rfl) rfl ?_
       refine F0.ap hC rfl (rs:=A0.rows [x7.1]) rfl (A0.sz []) (A0.sz [x7.1]) (Q1 (A0.len []) (A0.len [x7.1]) c10) (n' ?_)
       refine st1 6 rfl (by kernel_rfl) rfl ?_
       refine e' rfl ?_
       refine st1 7 rfl (by kernel_rfl) rfl ?_
       exact F0.s hC rfl (n' (W0.nil (by kernel_rfl) (eq' (N2 hh) rfl)))
      ·refine F0.be hC rfl (A0.rows_map [x7.1]).symm (n' ?_)
       refine st1 1 rfl (by kernel_rfl) rfl ?_
       refine e' rfl ?_
       refine st1 5 rfl (by kernel_rfl) rfl ?_
       refine F0.ap hC rfl (rs:=A0.rows [x7.1]) rfl (A0.sz []) (A0.sz [x7.1]) (Q1 (A0.len []) (A0.len [x7.1]) c10) (n' ?_)
       refine st1 6 rfl (by kernel_rfl) rfl ?_
       refine e' rfl ?_
       refine st1 7 rfl (by kernel_rfl) rfl ?_
       exact F0.s hC rfl (n' (W0.nil (by kernel_rfl) (eq' (N2 hh) rfl)))
   ·refine e' rfl ?_
    refine st2 0 3 rfl (by kernel_rfl) rfl rfl ?_ ?_
    ·refine e' rfl ?_
     refine st2 1 3 rfl (by kernel_rfl) rfl rfl ?_ ?_
     ·refine e' rfl ?_
      refine st1 3 rfl (by kernel_rfl) rfl ?_
      refine gq [0] ((V0 hx7).ok) rfl (n' ?_)
      refine st1 4 rfl (by kernel_rfl) rfl ?_
      refine F0.be hC rfl (A0.rows_map [x7.1]).symm (n' ?_)
      refine st1 5 rfl (by kernel_rfl) rfl ?_
      refine F0.ap hC rfl (rs:=A0.rows [x7.1]) rfl (A0.sz []) (A0.sz [x7.1]) (Q1 (A0.len []) (A0.len [x7.1]) c10) (n' ?_)
      refine st1 6 rfl (by kernel_rfl) rfl ?_
      refine e' rfl ?_
      refine st1 7 rfl (by kernel_rfl) rfl ?_
      exact F0.s hC rfl (n' (W0.nil (by kernel_rfl) (eq' (N2 hh) rfl)))
     ·refine gq [0] ((V0 hx7).ok) rfl (n' ?_)
      refine st2 1 4 rfl (by kernel_rfl) rfl rfl ?_ ?_
      ·refine e' rfl ?_
       refine st1 4 rfl (by kernel_rfl) rfl ?_
       refine F0.be hC rfl (A0.rows_map [x7.1]).symm (n' ?_)
       refine st1 5 rfl (by kernel_rfl) rfl ?_
       refine F0.ap hC rfl (rs:=A0.rows [x7.1]) rfl (A0.sz []) (A0.sz [x7.1]) (Q1 (A0.len []) (A0.len [x7.1]) c10) (n' ?_)
       refine st1 6 rfl (by kernel_rfl) rfl ?_
       refine e' rfl ?_
       refine st1 7 rfl (by kernel_rfl) rfl ?_
       exact F0.s hC rfl (n' (W0.nil (by kernel_rfl) (eq' (N2 hh) rfl)))
      ·refine F0.be hC rfl (A0.rows_map [x7.1]).symm (n' ?_)
       refine st1 1 rfl (by kernel_rfl) rfl ?_
       refine e' rfl ?_
       refine st1 5 rfl (by kernel_rfl) rfl ?_
       refine F0.ap hC rfl (rs:=A0.rows [x7.1]) rfl (A0.sz []) (A0.sz [x7.1]) (Q1 (A0.len []) (A0.len [x7.1]) c10) (n' ?_)
       refine st1 6 rfl (by kernel_rfl) rfl ?_
       refine e' rfl ?_
       refine st1 7 rfl (by kernel_rfl) rfl ?_
       exact F0.s hC rfl (n' (W0.nil (by kernel_rfl) (eq' (N2 hh) rfl)))
    ·refine gq [0] ((V0 hx7).ok) rfl (n' ?_)
     refine st2 0 4 rfl (by kernel_rfl) rfl rfl ?_ ?_
     ·refine e' rfl ?_
      refine st2 1 4 rfl (by kernel_rfl) rfl rfl ?_ ?_
      ·refine e' rfl ?_
       refine st1 4 rfl (by kernel_rfl) rfl ?_
       refine F0.be hC rfl (A0.rows_map [x7.1]).symm (n' ?_)
       refine st1 5 rfl (by kernel_rfl) rfl ?_
       refine F0.ap hC rfl (rs:=A0.rows [x7.1]) rfl (A0.sz []) (A0.sz [x7.1]) (Q1 (A0.len []) (A0.len [x7.1]) c10) (n' ?_)
       refine st1 6 rfl (by kernel_rfl) rfl ?_
       refine e' rfl ?_
       refine st1 7 rfl (by kernel_rfl) rfl ?_
       exact F0.s hC rfl (n' (W0.nil (by kernel_rfl) (eq' (N2 hh) rfl)))
      ·refine F0.be hC rfl (A0.rows_map [x7.1]).symm (n' ?_)
       refine st1 1 rfl (by kernel_rfl) rfl ?_
       refine e' rfl ?_
       refine st1 5 rfl (by kernel_rfl) rfl ?_
       refine F0.ap hC rfl (rs:=A0.rows [x7.1]) rfl (A0.sz []) (A0.sz [x7.1]) (Q1 (A0.len []) (A0.len [x7.1]) c10) (n' ?_)
       refine st1 6 rfl (by kernel_rfl) rfl ?_
       refine e' rfl ?_
       refine st1 7 rfl (by kernel_rfl) rfl ?_
       exact F0.s hC rfl (n' (W0.nil (by kernel_rfl) (eq' (N2 hh) rfl)))
     ·refine F0.be hC rfl (A0.rows_map [x7.1]).symm (n' ?_)
      refine st1 0 rfl (by kernel_rfl) rfl ?_
      refine e' rfl ?_
      refine st1 1 rfl (by kernel_rfl) rfl ?_
      refine e' rfl ?_
      refine st1 5 rfl (by kernel_rfl) rfl ?_
      refine F0.ap hC rfl (rs:=A0.rows [x7.1]) rfl (A0.sz []) (A0.sz [x7.1]) (Q1 (A0.len []) (A0.len [x7.1]) c10) (n' ?_)
      refine st1 6 rfl (by kernel_rfl) rfl ?_
      refine e' rfl ?_
      refine st1 7 rfl (by kernel_rfl) rfl ?_
      exact F0.s hC rfl (n' (W0.nil (by kernel_rfl) (eq' (N2 hh) rfl)))
  refine sk' (P' 1 rfl ?_)
  rcases bp' hh with ⟨nn,hx8,⟨⟩⟩ | ⟨x8,hx8,hh⟩
  ·exact gr [0] (J0 hx8) rfl (peW ⟨trivial,trivial⟩ rfl)
  refine gq [0] ((J0 hx8).ok) rfl (n' (p' 1 rfl ?_))
  rcases bp' hh with ⟨nn,hx9,⟨⟩⟩ | ⟨x9,hx9,hh⟩
  ·exact gr [0] (J0 hx9) rfl (peW ⟨trivial,trivial⟩ rfl)
  refine gq [0] ((J0 hx9).ok) rfl (n' (p' 1 rfl (F0.s hC rfl (n' (re' ?_)))))
  obtain rfl:=oi' hh
  exact ⟨_,.agg [.d (.int .i64 1),.d (.int .i64 x1.1.Op),.d (.int .i64 x1.1.NV),.d (.str x1.1.Name),.d (.sl (A0.rows x1.1.Kids)),.d (.int .i64 0),.d (.int .i64 0),.d (.str []),.d (.sl (A0.rows [])),.d (.str x4.1),.d (.sl (A0.rows [])),.d (.int .i64 0),.d (.int .i64 0),.d (.int .i64 0),.d (.sl (ei64.rows [])),.d (.sl (B0.rows [])),.d (.sl (B0.rows []))],[.row (D0.cells x9) 99],rfl,(.aggL ⟨.rfl,.rfl,.rfl,.rfl,.rfl,.rfl,.rfl,.rfl,.full,.rfl,.full,.rfl,.rfl,.rfl,.full,.full,.full,trivial⟩),⟨⟨rfl,.refl _,rfl⟩,trivial⟩,rfl,rfl,rpq rfl rfl⟩
 obtain ⟨x10,hx10,hh⟩:=bs' hh
 refine p' 1 rfl (gq [0] (T0 hx10) rfl (e' rfl (ci' rfl hh (fun hh=>?_) (fun hh=>?_))))
 ·refine P' 1 rfl ?_
  rcases bp' hh with ⟨nn,hx11,⟨⟩⟩ | ⟨x11,hx11,hh⟩
  ·exact gr [0] (E1 hx11) rfl (peW ⟨trivial,trivial⟩ rfl)
  refine gq [0] ((E1 hx11).ok) rfl (q' rfl (F0.s hC rfl (q' rfl (F0.s hC rfl (n' (p' 1 rfl ?_))))))
  rcases bp' hh with ⟨nn,hx9,⟨⟩⟩ | ⟨x9,hx9,hh⟩
  ·exact gr [0] (J0 hx9) rfl (peW ⟨trivial,trivial⟩ rfl)
  refine gq [0] ((J0 hx9).ok) rfl (n' (p' 1 rfl (F0.s hC rfl (n' (re' ?_)))))
  obtain rfl:=oi' hh
  exact ⟨_,.agg [.d (.int .i64 2),.d (.int .i64 x1.1.Op),.d (.int .i64 x1.1.NV),.d (.str x1.1.Name),.d (.sl (A0.rows x1.1.Kids)),.d (.int .i64 0),.d (.int .i64 0),.d (.str []),.d (.sl (A0.rows [])),.d (.str x11.1),.d (.sl (A0.rows [])),.d (.int .i64 0),.d (.int .i64 0),.d (.int .i64 0),.d (.sl (ei64.rows [])),.d (.sl (B0.rows [])),.d (.sl (B0.rows []))],[.row (D0.cells x9) 99],rfl,(.aggL ⟨.rfl,.rfl,.rfl,.rfl,.rfl,.rfl,.rfl,.rfl,.full,.rfl,.full,.rfl,.rfl,.rfl,.full,.full,.full,trivial⟩),⟨⟨rfl,.refl _,rfl⟩,trivial⟩,rfl,rfl,rpq rfl rfl⟩
 refine P' 1 rfl ?_
 rcases bp' hh with ⟨nn,hx12,⟨⟩⟩ | ⟨x12,hx12,hh⟩
 ·exact gr [0] (V0 hx12) rfl (peW ⟨trivial,trivial⟩ rfl)
 refine gq [0] ((V0 hx12).ok) rfl (q' rfl (F0.s hC rfl (n' (p' 1 rfl ?_))))
 rcases bp' hh with ⟨nn,hx9,⟨⟩⟩ | ⟨x9,hx9,hh⟩
 ·exact gr [0] (J0 hx9) rfl (peW ⟨trivial,trivial⟩ rfl)
 refine gq [0] ((J0 hx9).ok) rfl (n' (p' 1 rfl (F0.s hC rfl (n' (re' ?_)))))
 obtain rfl:=oi' hh
 exact ⟨_,.agg [.d (.int .i64 0),.d (.int .i64 x1.1.Op),.d (.int .i64 x1.1.NV),.d (.str x1.1.Name),.d (.sl (A0.rows x1.1.Kids)),.d (.int .i64 x12.1.Op),.d (.int .i64 x12.1.NV),.d (.str x12.1.Name),.d (.sl (A0.rows x12.1.Kids)),.d (.str []),.d (.sl (A0.rows [])),.d (.int .i64 0),.d (.int .i64 0),.d (.int .i64 0),.d (.sl (ei64.rows [])),.d (.sl (B0.rows [])),.d (.sl (B0.rows []))],[.row (D0.cells x9) 99],rfl,(.aggL ⟨.rfl,.rfl,.rfl,.rfl,.rfl,.rfl,.rfl,.rfl,.rfl,.rfl,.full,.rfl,.rfl,.rfl,.full,.full,.full,trivial⟩),⟨⟨rfl,.refl _,rfl⟩,trivial⟩,rfl,rfl,rpq rfl rfl⟩
def P4 (o0:D0)(o2_Numbers:List Int):Option (Pn (B0×Bool×D0)):=
 S0 [44] o0>>=fun x23=>
 if x23.1=true then
  P2 x23.2>>=fun x24=>match x24 with
  | .pn nn=>
  some (.pn nn)
  | .ok x24=>
  if (decide ((o2_Numbers.length+1) * 9≤140737488355328))=true then
   P4 x24.2 (o2_Numbers++[x24.1])
  else none
 else
  U0 [59] x23.2>>=fun x25=>match x25 with
  | .pn nn=>
  some (.pn nn)
  | .ok x25=>
  some (.ok ((B0.mk 8 (A0.mk 0 0 [] []) (A0.mk 0 0 [] []) [] [] 0 0 0 o2_Numbers [] []),true,x25))
 partial_fixpoint
abbrev Si (o0:D0)(o2_Numbers:List Int)(res:Pn (B0×Bool×D0)):Prop:=LMp C 93 1 Tryz.f142 [1,1,0,4,1,3,1,3,1,3,1,2,1,0,4] [(0,.ref 0 0),(2,.ref 1 0),(4,.ref 2 0)] [.row (D0.cells o0) 99,.row [.d (.int .i64 0),.d (.int .i64 0),.d (.int .i64 0),.d (.str []),.full (A0.rows []),.d (.int .i64 0),.d (.int .i64 0),.d (.str []),.full (A0.rows []),.d (.str []),.full (A0.rows []),.d (.int .i64 0),.d (.int .i64 0),.d (.int .i64 0),.full (ei64.rows []),.full (B0.rows []),.full (B0.rows [])] 144,.row [.d (.int .i64 8),.d (.int .i64 0),.d (.int .i64 0),.d (.str []),.d (.sl (A0.rows [])),.d (.int .i64 0),.d (.int .i64 0),.d (.str []),.d (.sl (A0.rows [])),.d (.str []),.d (.sl (A0.rows [])),.d (.int .i64 0),.d (.int .i64 0),.d (.int .i64 0),.osl 3 (ei64.rows o2_Numbers),.d (.sl (B0.rows [])),.d (.sl (B0.rows []))] 144,.tok 3 1] (F4 res (fun rr=>[.row (D0.cells rr.2.2) 99]) (fun rr=>.tup [.agg (B0.cells rr.1),.d (.bool rr.2.1)])) (D4 res B3 [.dead])
theorem Lp:(∀ o0 o2_Numbers res,P4 o0 o2_Numbers=some res→Si o0 o2_Numbers res):=by
 refine P4.partial_correctness _ ?_
 ·intro g0 ih0 o0 o2_Numbers res hh
  obtain ⟨x23,hx23,hh⟩:=bs' hh
  refine X0.unroll (S' (p' 1 rfl (gq [0] (T0 hx23) rfl (n' (ci' rfl hh (fun hh=>?_) (fun hh=>?_))))))
  ·refine sk' (bk' ?_)
   rcases bp' hh with ⟨nn,hx24,⟨⟩⟩ | ⟨x24,hx24,hh⟩
   ·refine AEx.drawE hC ?_
    refine st2 0 2 rfl (by kernel_rfl) rfl rfl ?_ ?_
    ·refine e' rfl ?_
     refine st2 1 2 rfl (by kernel_rfl) rfl rfl ?_ ?_
     ·refine e' rfl ?_
      refine st1 2 rfl (by kernel_rfl) rfl ?_
      refine e' rfl ?_
      refine st1 3 rfl (by kernel_rfl) rfl ?_
      exact gr [0] (C1 hx24) rfl (peW ⟨trivial,trivial⟩ rfl)
     ·refine e' rfl ?_
      refine st2 1 3 rfl (by kernel_rfl) rfl rfl ?_ ?_
      ·refine e' rfl ?_
       refine st1 3 rfl (by kernel_rfl) rfl ?_
       exact gr [0] (C1 hx24) rfl (peW ⟨trivial,trivial⟩ rfl)
      ·exact gr [0] (C1 hx24) rfl (peW ⟨trivial,trivial⟩ rfl)
    ·refine e' rfl ?_
     refine st2 0 3 rfl (by kernel_rfl) rfl rfl ?_ ?_
     ·refine e' rfl ?_
      refine st2 1 3 rfl (by kernel_rfl) rfl rfl ?_ ?_
      ·refine e' rfl ?_
       refine st1 3 rfl (by kernel_rfl) rfl ?_
       exact gr [0] (C1 hx24) rfl (peW ⟨trivial,trivial⟩ rfl)
      ·exact gr [0] (C1 hx24) rfl (peW ⟨trivial,trivial⟩ rfl)
     ·exact gr [0] (C1 hx24) rfl (peW ⟨trivial,trivial⟩ rfl)
   obtain ⟨c6,hh⟩:=N0 hh
   refine AEx.drawE hC ?_
   refine st2 0 2 rfl (by kernel_rfl) rfl rfl ?_ ?_
   ·refine e' rfl ?_
    refine st2 1 2 rfl (by kernel_rfl) rfl rfl ?_ ?_
    ·refine e' rfl ?_
     refine st1 2 rfl (by kernel_rfl) rfl ?_
     refine e' rfl ?_
     refine st1 3 rfl (by kernel_rfl) rfl ?_
     refine gq [0] ((C1 hx24).ok) rfl (n' ?_)
     refine st1 4 rfl (by kernel_rfl) rfl ?_
     refine F0.be hC rfl (ei64.rows_map [x24.1]).symm (n' ?_)
     refine st1 5 rfl (by kernel_rfl) rfl ?_
     refine F0.ap hC rfl (rs:=ei64.rows (o2_Numbers++[x24.1])) (ei64.app o2_Numbers [x24.1]) (ei64.sz o2_Numbers) (ei64.sz [x24.1]) (Q1 (ei64.len o2_Numbers) (ei64.len [x24.1]) c6) (n' ?_)
     refine st1 6 rfl (by kernel_rfl) rfl ?_
     refine e' rfl ?_
     refine st1 7 rfl (by kernel_rfl) rfl ?_
     exact F0.s hC rfl (n' (W0.nil (by kernel_rfl) (lq (ih0 _ _ _ hh) rfl)))
    ·refine e' rfl ?_
     refine st2 1 3 rfl (by kernel_rfl) rfl rfl ?_ ?_
     ·refine e' rfl ?_
      refine st1 3 rfl (by kernel_rfl) rfl ?_
      refine gq [0] ((C1 hx24).ok) rfl (n' ?_)
      refine st1 4 rfl (by kernel_rfl) rfl ?_
      refine F0.be hC rfl (ei64.rows_map [x24.1]).symm (n' ?_)
      refine st1 5 rfl (by kernel_rfl) rfl ?_
      refine F0.ap hC rfl (rs:=ei64.rows (o2_Numbers++[x24.1])) (ei64.app o2_Numbers [x24.1]) (ei64.sz o2_Numbers) (ei64.sz [x24.1]) (Q1 (ei64.len o2_Numbers) (ei64.len [x24.1]) c6) (n' ?_)
      refine st1 6 rfl (by kernel_rfl) rfl ?_
      refine e' rfl ?_
      refine st1 7 rfl (by kernel_rfl) rfl ?_
      exact F0.s hC rfl (n' (W0.nil (by kernel_rfl) (lq (ih0 _ _ _ hh) rfl)))
     ·refine gq [0] ((C1 hx24).ok) rfl (n' ?_)
      refine st2 1 4 rfl (by kernel_rfl) rfl rfl ?_ ?_
      ·refine e' rfl ?_
       refine st1 4 rfl (by kernel_rfl) rfl ?_
       refine F0.be hC rfl (ei64.rows_map [x24.1]).symm (n' ?_)
       refine st1 5 rfl (by kernel_rfl) rfl ?_
       refine F0.ap hC rfl (rs:=ei64.rows (o2_Numbers++[x24.1])) (ei64.app o2_Numbers [x24.1]) (ei64.sz o2_Numbers) (ei64.sz [x24.1]) (Q1 (ei64.len o2_Numbers) (ei64.len [x24.1]) c6) (n' ?_)
       refine st1 6 rfl (by kernel_rfl) rfl ?_
       refine e' rfl ?_
       refine st1 7 rfl (by kernel_rfl) rfl ?_
       exact F0.s hC rfl (n' (W0.nil (by kernel_rfl) (lq (ih0 _ _ _ hh) rfl)))
      ·refine F0.be hC rfl (ei64.rows_map [x24.1]).symm (n' ?_)
       refine st1 1 rfl (by kernel_rfl) rfl ?_
       refine e' rfl ?_
       refine st1 5 rfl (by kernel_rfl) rfl ?_
       refine F0.ap hC rfl (rs:=ei64.rows (o2_Numbers++[x24.1])) (ei64.app o2_Numbers [x24.1]) (ei64.sz o2_Numbers) (ei64.sz [x24.1]) (Q1 (ei64.len o2_Numbers) (ei64.len [x24.1]) c6) (n' ?_)
       refine st1 6 rfl (by kernel_rfl) rfl ?_
       refine e' rfl ?_
       refine st1 7 rfl (by kernel_rfl) rfl ?_
       exact F0.s hC rfl (n' (W0.nil (by kernel_rfl) (lq (ih0 _ _ _ hh) rfl)))
   ·refine e' rfl ?_
    refine st2 0 3 rfl (by kernel_rfl) rfl rfl ?_ ?_
    ·refine e' rfl ?_
     refine st2 1 3 rfl (by kernel_rfl) rfl rfl ?_ ?_
     ·refine e' rfl ?_
      refine st1 3 rfl (by kernel_rfl) rfl ?_
      refine gq [0] ((C1 hx24).ok) rfl (n' ?_)
      refine st1 4 rfl (by kernel_rfl) rfl ?_
      refine F0.be hC rfl (ei64.rows_map [x24.1]).symm (n' ?_)
      refine st1 5 rfl (by kernel_rfl) rfl ?_
      refine F0.ap hC rfl (rs:=ei64.rows (o2_Numbers++[x24.1])) (ei64.app o2_Numbers [x24.1]) (ei64.sz o2_Numbers) (ei64.sz [x24.1]) (Q1 (ei64.len o2_Numbers) (ei64.len [x24.1]) c6) (n' ?_)
      refine st1 6 rfl (by kernel_rfl) rfl ?_
      refine e' rfl ?_
      refine st1 7 rfl (by kernel_rfl) rfl ?_
      exact F0.s hC rfl (n' (W0.nil (by kernel_rfl) (lq (ih0 _ _ _ hh) rfl)))
     ·refine gq [0] ((C1 hx24).ok) rfl (n' ?_)
      refine st2 1 4 rfl (by kernel_rfl) rfl rfl ?_ ?_
      ·refine e' rfl ?_
       refine st1 4 rfl (by kernel_rfl) rfl ?_
       refine F0.be hC rfl (ei64.rows_map [x24.1]).symm (n' ?_)
       refine st1 5 rfl (by kernel_rfl) rfl ?_
       refine F0.ap hC rfl (rs:=ei64.rows (o2_Numbers++[x24.1])) (ei64.app o2_Numbers [x24.1]) (ei64.sz o2_Numbers) (ei64.sz [x24.1]) (Q1 (ei64.len o2_Numbers) (ei64.len [x24.1]) c6) (n' ?_)
       refine st1 6 rfl (by kernel_rfl) rfl ?_
       refine e' rfl ?_
       refine st1 7 rfl (by kernel_rfl) rfl ?_
       exact F0.s hC rfl (n' (W0.nil (by kernel_rfl) (lq (ih0 _ _ _ hh) rfl)))
      ·refine F0.be hC rfl (ei64.rows_map [x24.1]).symm (n' ?_)
       refine st1 1 rfl (by kernel_rfl) rfl ?_
       refine e' rfl ?_
       refine st1 5 rfl (by kernel_rfl) rfl ?_
       refine F0.ap hC rfl (rs:=ei64.rows (o2_Numbers++[x24.1])) (ei64.app o2_Numbers [x24.1]) (ei64.sz o2_Numbers) (ei64.sz [x24.1]) (Q1 (ei64.len o2_Numbers) (ei64.len [x24.1]) c6) (n' ?_)
       refine st1 6 rfl (by kernel_rfl) rfl ?_
       refine e' rfl ?_
       refine st1 7 rfl (by kernel_rfl) rfl ?_
       exact F0.s hC rfl (n' (W0.nil (by kernel_rfl) (lq (ih0 _ _ _ hh) rfl)))
    ·refine gq [0] ((C1 hx24).ok) rfl (n' ?_)
     refine st2 0 4 rfl (by kernel_rfl) rfl rfl ?_ ?_
     ·refine e' rfl ?_
      refine st2 1 4 rfl (by kernel_rfl) rfl rfl ?_ ?_
      ·refine e' rfl ?_
       refine st1 4 rfl (by kernel_rfl) rfl ?_
       refine F0.be hC rfl (ei64.rows_map [x24.1]).symm (n' ?_)
       refine st1 5 rfl (by kernel_rfl) rfl ?_
       refine F0.ap hC rfl (rs:=ei64.rows (o2_Numbers++[x24.1])) (ei64.app o2_Numbers [x24.1]) (ei64.sz o2_Numbers) (ei64.sz [x24.1]) (Q1 (ei64.len o2_Numbers) (ei64.len [x24.1]) c6) (n' ?_)
       refine st1 6 rfl (by kernel_rfl) rfl ?_
       refine e' rfl ?_
       refine st1 7 rfl (by kernel_rfl) rfl ?_
       exact F0.s hC rfl (n' (W0.nil (by kernel_rfl) (lq (ih0 _ _ _ hh) rfl)))
      ·refine F0.be hC rfl (ei64.rows_map [x24.1]).symm (n' ?_)
       refine st1 1 rfl (by kernel_rfl) rfl ?_
       refine e' rfl ?_
       refine st1 5 rfl (by kernel_rfl) rfl ?_
       refine F0.ap hC rfl (rs:=ei64.rows (o2_Numbers++[x24.1])) (ei64.app o2_Numbers [x24.1]) (ei64.sz o2_Numbers) (ei64.sz [x24.1]) (Q1 (ei64.len o2_Numbers) (ei64.len [x24.1]) c6) (n' ?_)
       refine st1 6 rfl (by kernel_rfl) rfl ?_
       refine e' rfl ?_
       refine st1 7 rfl (by kernel_rfl) rfl ?_
       exact F0.s hC rfl (n' (W0.nil (by kernel_rfl) (lq (ih0 _ _ _ hh) rfl)))
     ·refine F0.be hC rfl (ei64.rows_map [x24.1]).symm (n' ?_)
      refine st1 0 rfl (by kernel_rfl) rfl ?_
      refine e' rfl ?_
      refine st1 1 rfl (by kernel_rfl) rfl ?_
      refine e' rfl ?_
      refine st1 5 rfl (by kernel_rfl) rfl ?_
      refine F0.ap hC rfl (rs:=ei64.rows (o2_Numbers++[x24.1])) (ei64.app o2_Numbers [x24.1]) (ei64.sz o2_Numbers) (ei64.sz [x24.1]) (Q1 (ei64.len o2_Numbers) (ei64.len [x24.1]) c6) (n' ?_)
      refine st1 6 rfl (by kernel_rfl) rfl ?_
      refine e' rfl ?_
      refine st1 7 rfl (by kernel_rfl) rfl ?_
      exact F0.s hC rfl (n' (W0.nil (by kernel_rfl) (lq (ih0 _ _ _ hh) rfl)))
  refine ex' (P' 1 rfl ?_)
  rcases bp' hh with ⟨nn,hx25,⟨⟩⟩ | ⟨x25,hx25,hh⟩
  ·exact gr [0] (J0 hx25) rfl (peW ⟨trivial,trivial⟩ rfl)
  refine gq [0] ((J0 hx25).ok) rfl (n' (p' 1 rfl (F0.s hC rfl (e' rfl (re' ?_)))))
  obtain rfl:=oi' hh
  exact ⟨_,.tup [.agg [.d (.int .i64 8),.d (.int .i64 0),.d (.int .i64 0),.d (.str []),.d (.sl (A0.rows [])),.d (.int .i64 0),.d (.int .i64 0),.d (.str []),.d (.sl (A0.rows [])),.d (.str []),.d (.sl (A0.rows [])),.d (.int .i64 0),.d (.int .i64 0),.d (.int .i64 0),.d (.sl (ei64.rows o2_Numbers)),.d (.sl (B0.rows [])),.d (.sl (B0.rows []))],.d (.bool true)],[.row (D0.cells x25) 99],rfl,(.tupL ⟨(.aggL ⟨.rfl,.rfl,.rfl,.rfl,.rfl,.rfl,.rfl,.rfl,.rfl,.rfl,.rfl,.rfl,.rfl,.rfl,.osl,.rfl,.rfl,trivial⟩),.rfl,trivial⟩),⟨⟨rfl,.refl _,rfl⟩,trivial⟩,rfl,rfl,rpq rfl rfl⟩
theorem Xp {o0 o2_Numbers res}(hh:P4 o0 o2_Numbers=some res):Si o0 o2_Numbers res:=(Lp) _ _ _ hh
mutual
def O3 (parserParser:D0):Option (Pn (List B0×D0)):=
 S5 parserParser []
 partial_fixpoint
def S5 (o0:D0)(out:List B0):Option (Pn (List B0×D0)):=
 F7 o0>>=fun x1=>match x1 with
 | .pn nn=>
 some (.pn nn)
 | .ok x1=>
 if (!x1.2.1)=true then
  some (.ok (out,x1.2.2))
 else
  if (decide ((out.length+1) * 257≤140737488355328))=true then
   S5 x1.2.2 (out++[x1.1])
  else none
 partial_fixpoint
def F7 (parserParser:D0):Option (Pn (B0×Bool×D0)):=
 G7 parserParser>>=fun x1=>
 if x1=true then
  J9 parserParser>>=fun x2=>match x2 with
  | .pn nn=>
  some (.pn nn)
  | .ok x2=>
  some (.ok (x2.1,true,x2.2))
 else
  S0 [111,117,116,112,117,116] parserParser>>=fun x3=>
  if x3.1=true then
   G1 x3.2>>=fun x4=>match x4 with
   | .pn nn=>
   some (.pn nn)
   | .ok x4=>
   U0 [59] x4.2>>=fun x5=>match x5 with
   | .pn nn=>
   some (.pn nn)
   | .ok x5=>
   some (.ok ((B0.mk 3 (A0.mk 0 0 [] []) x4.1 [] [] 0 0 0 [] [] []),true,x5))
  else
   S0 [119,97,105,116] x3.2>>=fun x6=>
   if x6.1=true then
    P2 x6.2>>=fun x7=>match x7 with
    | .pn nn=>
    some (.pn nn)
    | .ok x7=>
    U0 [59] x7.2>>=fun x8=>match x8 with
    | .pn nn=>
    some (.pn nn)
    | .ok x8=>
    some (.ok ((B0.mk 4 (A0.mk 0 0 [] []) (A0.mk 0 0 [] []) [] [] x7.1 0 0 [] [] []),true,x8))
   else
    S0 [115,101,116,116,108,101] x6.2>>=fun x9=>
    if x9.1=true then
     P2 x9.2>>=fun x10=>match x10 with
     | .pn nn=>
     some (.pn nn)
     | .ok x10=>
     P4 x10.2 [x10.1]
    else
     S0 [105,102] x9.2>>=fun x11=>
     if x11.1=true then
      G1 x11.2>>=fun x12=>match x12 with
      | .pn nn=>
      some (.pn nn)
      | .ok x12=>
      L6 x12.2>>=fun x26=>match x26 with
      | .pn nn=>
      some (.pn nn)
      | .ok x26=>
      S0 [101,108,115,101] x26.2>>=fun x27=>
      if x27.1=true then
       L6 x27.2>>=fun x28=>match x28 with
       | .pn nn=>
       some (.pn nn)
       | .ok x28=>
       some (.ok ((B0.mk 5 (A0.mk 0 0 [] []) x12.1 [] [] 0 0 0 [] x26.1 x28.1),true,x28.2))
      else
       some (.ok ((B0.mk 5 (A0.mk 0 0 [] []) x12.1 [] [] 0 0 0 [] x26.1 []),true,x27.2))
     else
      S0 [119,104,105,108,101] x11.2>>=fun x13=>
      if x13.1=true then
       G1 x13.2>>=fun x14=>match x14 with
       | .pn nn=>
       some (.pn nn)
       | .ok x14=>
       U0 [108,105,109,105,116] x14.2>>=fun x15=>match x15 with
       | .pn nn=>
       some (.pn nn)
       | .ok x15=>
       P2 x15>>=fun x16=>match x16 with
       | .pn nn=>
       some (.pn nn)
       | .ok x16=>
       L6 x16.2>>=fun x29=>match x29 with
       | .pn nn=>
       some (.pn nn)
       | .ok x29=>
       some (.ok ((B0.mk 6 (A0.mk 0 0 [] []) x14.1 [] [] x16.1 0 0 [] x29.1 []),true,x29.2))
      else
       S0 [102,111,114] x13.2>>=fun x17=>
       if x17.1=true then
        Y2 x17.2>>=fun x18=>match x18 with
        | .pn nn=>
        some (.pn nn)
        | .ok x18=>
        U0 [61] x18.2>>=fun x19=>match x19 with
        | .pn nn=>
        some (.pn nn)
        | .ok x19=>
        P2 x19>>=fun x20=>match x20 with
        | .pn nn=>
        some (.pn nn)
        | .ok x20=>
        U0 [116,111] x20.2>>=fun x21=>match x21 with
        | .pn nn=>
        some (.pn nn)
        | .ok x21=>
        P2 x21>>=fun x22=>match x22 with
        | .pn nn=>
        some (.pn nn)
        | .ok x22=>
        L6 x22.2>>=fun x30=>match x30 with
        | .pn nn=>
        some (.pn nn)
        | .ok x30=>
        some (.ok ((B0.mk 7 (A0.mk 0 0 [] []) (A0.mk 0 0 [] []) x18.1 [] 0 x20.1 x22.1 [] x30.1 []),true,x30.2))
       else
        some (.ok ((B0.mk 0 (A0.mk 0 0 [] []) (A0.mk 0 0 [] []) [] [] 0 0 0 [] [] []),false,x17.2))
 partial_fixpoint
def L6 (parserParser:D0):Option (Pn (List B0×D0)):=
 U0 [123] parserParser>>=fun x1=>match x1 with
 | .pn nn=>
 some (.pn nn)
 | .ok x1=>
 O3 x1>>=fun x2=>match x2 with
 | .pn nn=>
 some (.pn nn)
 | .ok x2=>
 U0 [125] x2.2>>=fun x3=>match x3 with
 | .pn nn=>
 some (.pn nn)
 | .ok x3=>
 some (.ok (x2.1,x3))
 partial_fixpoint
end
abbrev Ik (parserParser:D0)(res:Pn (List B0×D0)):Prop:=C2 C 88 [.ref 0 0] [.row (D0.cells parserParser) 99] (F4 res (fun rr=>[.row (D0.cells rr.2) 99]) (fun rr=>.d (.sl (B0.rows rr.1)))) (D4 res B3 [.dead])
abbrev Yp (o0:D0)(out:List B0)(res:Pn (List B0×D0)):Prop:=LMp C 18 1 Tryz.f88 [1,1,4] [(0,.ref 0 0),(3,.osl 1 (B0.rows out))] [.row (D0.cells o0) 99,.tok 144 17] (F4 res (fun rr=>[.row (D0.cells rr.2) 99]) (fun rr=>.d (.sl (B0.rows rr.1)))) (D4 res B3 [.dead])
abbrev Xu (parserParser:D0)(res:Pn (B0×Bool×D0)):Prop:=C2 C 142 [.ref 0 0] [.row (D0.cells parserParser) 99] (F4 res (fun rr=>[.row (D0.cells rr.2.2) 99]) (fun rr=>.tup [.agg (B0.cells rr.1),.d (.bool rr.2.1)])) (D4 res B3 [.dead])
abbrev J10 (parserParser:D0)(res:Pn (List B0×D0)):Prop:=C2 C 174 [.ref 0 0] [.row (D0.cells parserParser) 99] (F4 res (fun rr=>[.row (D0.cells rr.2) 99]) (fun rr=>.d (.sl (B0.rows rr.1)))) (D4 res B3 [.dead])
theorem Xq:(∀ parserParser res,O3 parserParser=some res→Ik parserParser res)∧(∀ o0 out res,S5 o0 out=some res→Yp o0 out res)∧(∀ parserParser res,F7 parserParser=some res→Xu parserParser res)∧(∀ parserParser res,L6 parserParser=some res→J10 parserParser res):=by
 refine O3.mutual_partial_correctness _ _ _ _ ?_ ?_ ?_ ?_
 ·intro g1 ih1 parserParser res hh
  exact C2.intro hC Tryz.func88 rfl rfl rfl (t' rfl (p' 1 rfl (F0.tokE 3 144 17 rfl (n' (bk' (fq (ih1 _ _ _ hh) rfl))))))
 ·intro g1 g2 ih1 ih2 o0 out res hh
  refine X0.unroll (bk' (p' 1 rfl ?_))
  rcases bp' hh with ⟨nn,hx1,⟨⟩⟩ | ⟨x1,hx1,hh⟩
  ·exact gr [0] (ih2 _ _ hx1) rfl (peW ⟨trivial,trivial⟩ rfl)
  refine gq [0] ((ih2 _ _ hx1).ok) rfl (o' 3 rfl (F0.nf hC rfl (F0.s hC rfl (e' rfl (S' (t' rfl (ci' rfl hh (fun hh=>?_) (fun hh=>?_))))))))
  ·refine t' rfl (re' ?_)
   obtain rfl:=oi' hh
   exact ⟨_,.d (.sl (B0.rows out)),[.row (D0.cells x1.2.2) 99],rfl,.osl,⟨⟨rfl,.refl _,rfl⟩,trivial⟩,rfl,rfl,rpq rfl rfl⟩
  obtain ⟨c6,hh⟩:=N0 hh
  exact sk' (P' 2 rfl (F0.be hC rfl (B0.rows_map [x1.1]).symm (F0.ap hC rfl (rs:=B0.rows (out++[x1.1])) (B0.app out [x1.1]) (B0.sz out) (B0.sz [x1.1]) (Q1 (B0.len out) (B0.len [x1.1]) c6) (e' rfl (lq (ih1 _ _ _ hh) rfl)))))
 ·intro g3 ih3 parserParser res hh
  obtain ⟨x1,hx1,hh⟩:=bs' hh
  refine C2.intro hC Tryz.func142 rfl rfl rfl (s' rfl rfl (F0.nf hC rfl (e' rfl (s' rfl rfl (F0.nf hC rfl (n' (S' (bk' (p' 1 rfl (gq [0] (Ch hx1) rfl (e' rfl (ci' rfl hh (fun hh=>?_) (fun hh=>?_)))))))))))))
  ·refine p' 1 rfl ?_
   rcases bp' hh with ⟨nn,hx2,⟨⟩⟩ | ⟨x2,hx2,hh⟩
   ·exact gr [0] (Jj hx2) rfl (peW ⟨trivial,trivial⟩ rfl)
   cases hh
   exact gq [0] ((Jj hx2).ok) rfl (F0.s hC rfl (e' rfl (re' (rq rfl))))
  obtain ⟨x3,hx3,hh⟩:=bs' hh
  refine p' 1 rfl (gq [0] (T0 hx3) rfl (e' rfl (ci' rfl hh (fun hh=>?_) (fun hh=>?_))))
  ·refine p' 1 rfl ?_
   rcases bp' hh with ⟨nn,hx4,⟨⟩⟩ | ⟨x4,hx4,hh⟩
   ·exact gr [0] (V0 hx4) rfl (peW ⟨trivial,trivial⟩ rfl)
   refine gq [0] ((V0 hx4).ok) rfl (q' rfl (F0.s hC rfl (n' (P' 1 rfl ?_))))
   rcases bp' hh with ⟨nn,hx5,⟨⟩⟩ | ⟨x5,hx5,hh⟩
   ·exact gr [0] (J0 hx5) rfl (peW ⟨trivial,trivial⟩ rfl)
   cases hh
   exact gq [0] ((J0 hx5).ok) rfl (n' (p' 1 rfl (F0.s hC rfl (e' rfl (re' (rq rfl))))))
  obtain ⟨x6,hx6,hh⟩:=bs' hh
  refine p' 1 rfl (gq [0] (T0 hx6) rfl (e' rfl (ci' rfl hh (fun hh=>?_) (fun hh=>?_))))
  ·refine p' 1 rfl ?_
   rcases bp' hh with ⟨nn,hx7,⟨⟩⟩ | ⟨x7,hx7,hh⟩
   ·exact gr [0] (C1 hx7) rfl (peW ⟨trivial,trivial⟩ rfl)
   refine gq [0] ((C1 hx7).ok) rfl (q' rfl (F0.s hC rfl (n' (P' 1 rfl ?_))))
   rcases bp' hh with ⟨nn,hx8,⟨⟩⟩ | ⟨x8,hx8,hh⟩
   ·exact gr [0] (J0 hx8) rfl (peW ⟨trivial,trivial⟩ rfl)
   cases hh
   exact gq [0] ((J0 hx8).ok) rfl (n' (p' 1 rfl (F0.s hC rfl (e' rfl (re' (rq rfl))))))
  obtain ⟨x9,hx9,hh⟩:=bs' hh
  refine p' 1 rfl (gq [0] (T0 hx9) rfl (e' rfl (ci' rfl hh (fun hh=>?_) (fun hh=>?_))))
  ·refine p' 1 rfl ?_
   rcases bp' hh with ⟨nn,hx10,⟨⟩⟩ | ⟨x10,hx10,hh⟩
   ·exact gr [0] (C1 hx10) rfl (peW ⟨trivial,trivial⟩ rfl)
   exact gq [0] ((C1 hx10).ok) rfl (F0.be hC rfl (ei64.rows_map [x10.1]).symm (F0.tokE 32 3 1 rfl (q' rfl (F0.s hC rfl (n' (S' (bk' (fq (Xp hh) rfl))))))))
  obtain ⟨x11,hx11,hh⟩:=bs' hh
  refine p' 1 rfl (gq [0] (T0 hx11) rfl (e' rfl (ci' rfl hh (fun hh=>?_) (fun hh=>?_))))
  ·refine p' 1 rfl ?_
   rcases bp' hh with ⟨nn,hx12,⟨⟩⟩ | ⟨x12,hx12,hh⟩
   ·exact gr [0] (V0 hx12) rfl (peW ⟨trivial,trivial⟩ rfl)
   refine gq [0] ((V0 hx12).ok) rfl (q' rfl (F0.s hC rfl (n' (p' 1 rfl ?_))))
   rcases bp' hh with ⟨nn,hx26,⟨⟩⟩ | ⟨x26,hx26,hh⟩
   ·exact gr [0] (ih3 _ _ hx26) rfl (peW ⟨trivial,trivial⟩ rfl)
   obtain ⟨x27,hx27,hh⟩:=bs' hh
   refine gq [0] ((ih3 _ _ hx26).ok) rfl (q' rfl (F0.s hC rfl (n' (p' 1 rfl (gq [0] (T0 hx27) rfl (n' (ci' rfl hh (fun hh=>?_) (fun hh=>?_))))))))
   ·refine P' 1 rfl ?_
    rcases bp' hh with ⟨nn,hx28,⟨⟩⟩ | ⟨x28,hx28,hh⟩
    ·exact gr [0] (ih3 _ _ hx28) rfl (peW ⟨trivial,trivial⟩ rfl)
    cases hh
    exact gq [0] ((ih3 _ _ hx28).ok) rfl (q' rfl (F0.s hC rfl (n' (p' 1 rfl (F0.s hC rfl (e' rfl (re' (rq rfl))))))))
   cases hh
   exact sk' (p' 1 rfl (F0.s hC rfl (e' rfl (re' (rq rfl)))))
  obtain ⟨x13,hx13,hh⟩:=bs' hh
  refine p' 1 rfl (gq [0] (T0 hx13) rfl (e' rfl (ci' rfl hh (fun hh=>?_) (fun hh=>?_))))
  ·refine p' 1 rfl ?_
   rcases bp' hh with ⟨nn,hx14,⟨⟩⟩ | ⟨x14,hx14,hh⟩
   ·exact gr [0] (V0 hx14) rfl (peW ⟨trivial,trivial⟩ rfl)
   refine gq [0] ((V0 hx14).ok) rfl (q' rfl (F0.s hC rfl (n' (p' 1 rfl ?_))))
   rcases bp' hh with ⟨nn,hx15,⟨⟩⟩ | ⟨x15,hx15,hh⟩
   ·exact gr [0] (J0 hx15) rfl (peW ⟨trivial,trivial⟩ rfl)
   refine gq [0] ((J0 hx15).ok) rfl (n' (p' 1 rfl ?_))
   rcases bp' hh with ⟨nn,hx16,⟨⟩⟩ | ⟨x16,hx16,hh⟩
   ·exact gr [0] (C1 hx16) rfl (peW ⟨trivial,trivial⟩ rfl)
   refine gq [0] ((C1 hx16).ok) rfl (q' rfl (F0.s hC rfl (n' (P' 1 rfl ?_))))
   rcases bp' hh with ⟨nn,hx29,⟨⟩⟩ | ⟨x29,hx29,hh⟩
   ·exact gr [0] (ih3 _ _ hx29) rfl (peW ⟨trivial,trivial⟩ rfl)
   cases hh
   exact gq [0] ((ih3 _ _ hx29).ok) rfl (q' rfl (F0.s hC rfl (n' (p' 1 rfl (F0.s hC rfl (e' rfl (re' (rq rfl))))))))
  obtain ⟨x17,hx17,hh⟩:=bs' hh
  refine p' 1 rfl (gq [0] (T0 hx17) rfl (e' rfl (ci' rfl hh (fun hh=>?_) (fun hh=>?_))))
  ·refine p' 1 rfl ?_
   rcases bp' hh with ⟨nn,hx18,⟨⟩⟩ | ⟨x18,hx18,hh⟩
   ·exact gr [0] (E1 hx18) rfl (peW ⟨trivial,trivial⟩ rfl)
   refine gq [0] ((E1 hx18).ok) rfl (q' rfl (F0.s hC rfl (n' (p' 1 rfl ?_))))
   rcases bp' hh with ⟨nn,hx19,⟨⟩⟩ | ⟨x19,hx19,hh⟩
   ·exact gr [0] (J0 hx19) rfl (peW ⟨trivial,trivial⟩ rfl)
   refine gq [0] ((J0 hx19).ok) rfl (n' (p' 1 rfl ?_))
   rcases bp' hh with ⟨nn,hx20,⟨⟩⟩ | ⟨x20,hx20,hh⟩
   ·exact gr [0] (C1 hx20) rfl (peW ⟨trivial,trivial⟩ rfl)
   refine gq [0] ((C1 hx20).ok) rfl (q' rfl (F0.s hC rfl (n' (p' 1 rfl ?_))))
   rcases bp' hh with ⟨nn,hx21,⟨⟩⟩ | ⟨x21,hx21,hh⟩
   ·exact gr [0] (J0 hx21) rfl (peW ⟨trivial,trivial⟩ rfl)
   refine gq [0] ((J0 hx21).ok) rfl (n' (p' 1 rfl ?_))
   rcases bp' hh with ⟨nn,hx22,⟨⟩⟩ | ⟨x22,hx22,hh⟩
   ·exact gr [0] (C1 hx22) rfl (peW ⟨trivial,trivial⟩ rfl)
   refine gq [0] ((C1 hx22).ok) rfl (q' rfl (F0.s hC rfl (n' (P' 1 rfl ?_))))
   rcases bp' hh with ⟨nn,hx30,⟨⟩⟩ | ⟨x30,hx30,hh⟩
   ·exact gr [0] (ih3 _ _ hx30) rfl (peW ⟨trivial,trivial⟩ rfl)
   cases hh
   exact gq [0] ((ih3 _ _ hx30).ok) rfl (q' rfl (F0.s hC rfl (n' (p' 1 rfl (F0.s hC rfl (e' rfl (re' (rq rfl))))))))
  refine p' 1 rfl (F0.s hC rfl (e' rfl (re' ?_)))
  obtain rfl:=oi' hh
  exact ⟨_,.tup [.agg [.d (.int .i64 0),.d (.int .i64 0),.d (.int .i64 0),.d (.str []),.d (.sl (A0.rows [])),.d (.int .i64 0),.d (.int .i64 0),.d (.str []),.d (.sl (A0.rows [])),.d (.str []),.d (.sl (A0.rows [])),.d (.int .i64 0),.d (.int .i64 0),.d (.int .i64 0),.d (.sl (ei64.rows [])),.d (.sl (B0.rows [])),.d (.sl (B0.rows []))],.d (.bool false)],[.row (D0.cells x17.2) 99],rfl,(.tupL ⟨(.aggL ⟨.rfl,.rfl,.rfl,.rfl,.full,.rfl,.rfl,.rfl,.full,.rfl,.full,.rfl,.rfl,.rfl,.full,.full,.full,trivial⟩),.rfl,trivial⟩),⟨⟨rfl,.refl _,rfl⟩,trivial⟩,rfl,rfl,rpq rfl rfl⟩
 ·intro g0 ih0 parserParser res hh
  refine C2.intro hC Tryz.func174 rfl rfl rfl (t' rfl (p' 1 rfl ?_))
  rcases bp' hh with ⟨nn,hx1,⟨⟩⟩ | ⟨x1,hx1,hh⟩
  ·exact gr [0] (J0 hx1) rfl (peW ⟨trivial,trivial⟩ rfl)
  refine gq [0] ((J0 hx1).ok) rfl (n' (p' 1 rfl ?_))
  rcases bp' hh with ⟨nn,hx2,⟨⟩⟩ | ⟨x2,hx2,hh⟩
  ·exact gr [0] (ih0 _ _ hx2) rfl (peW ⟨trivial,trivial⟩ rfl)
  refine gq [0] ((ih0 _ _ hx2).ok) rfl (e' rfl (p' 1 rfl ?_))
  rcases bp' hh with ⟨nn,hx3,⟨⟩⟩ | ⟨x3,hx3,hh⟩
  ·exact gr [0] (J0 hx3) rfl (peW ⟨trivial,trivial⟩ rfl)
  cases hh
  exact gq [0] ((J0 hx3).ok) rfl (n' (t' rfl (re' (rq rfl))))
theorem Ua {parserParser res}(hh:O3 parserParser=some res):Ik parserParser res:=(Xq).1 _ _ hh
def U4 (o02:D0)(x1:Str×D0)(x7:E0×D0)(o2_Params2:List C0)(o2_Vars:List C0):Option (Pn (C0×D0)):=
 S0 [118,97,114] o02>>=fun x9=>
 if x9.1=true then
  U7 x9.2>>=fun x10=>match x10 with
  | .pn nn=>
  some (.pn nn)
  | .ok x10=>
  if (decide ((o2_Vars.length+1) * 257≤140737488355328))=true then
   U4 x10.2 x1 x7 o2_Params2 (o2_Vars++[x10.1])
  else none
 else
  O3 x9.2>>=fun x11=>match x11 with
  | .pn nn=>
  some (.pn nn)
  | .ok x11=>
  U0 [114,101,116,117,114,110] x11.2>>=fun x12=>match x12 with
  | .pn nn=>
  some (.pn nn)
  | .ok x12=>
  G1 x12>>=fun x13=>match x13 with
  | .pn nn=>
  some (.pn nn)
  | .ok x13=>
  U0 [59] x13.2>>=fun x14=>match x14 with
  | .pn nn=>
  some (.pn nn)
  | .ok x14=>
  U0 [125] x14>>=fun x15=>match x15 with
  | .pn nn=>
  some (.pn nn)
  | .ok x15=>
  some (.ok ((C0.mk 6 x1.1 x7.1 0 x13.1 o2_Params2 o2_Vars x11.1),x15))
 partial_fixpoint
abbrev Kj (o02:D0)(x1:Str×D0)(x7:E0×D0)(o2_Params2:List C0)(o2_Vars:List C0)(res:Pn (C0×D0)):Prop:=LMp C 58 1 Tryz.f141 [1,1,1,1,1,1,1,1,0,4] [(0,.ref 0 0),(2,.ref 1 0),(3,.ref 2 0)] [.row (D0.cells o02) 99,.row [.d (.int .i64 0),.d (.str []),.d (.int .i64 0),.d (.int .i64 0),.d (.int .i64 0),.d (.int .i64 0),.d (.str []),.full (estr.rows []),.full (E0.rows []),.d (.int .i64 0),.d (.int .i64 0),.d (.int .i64 0),.d (.str []),.full (A0.rows []),.full (C0.rows []),.full (C0.rows []),.full (B0.rows [])] 128,.row [.d (.int .i64 6),.d (.str x1.1),.d (.int .i64 x7.1.Kind),.d (.int .i64 x7.1.Low),.d (.int .i64 x7.1.High),.d (.int .i64 x7.1.Size),.d (.str x7.1.Name),.d (.sl (estr.rows x7.1.Names)),.d (.sl (E0.rows x7.1.Of)),.d (.int .i64 0),.d (.int .i64 0),.d (.int .i64 0),.d (.str []),.full (A0.rows []),.osl 3 (C0.rows o2_Params2),.osl 4 (C0.rows o2_Vars),.full (B0.rows [])] 128,.tok 128 17,.tok 128 17] (F4 res (fun rr=>[.row (D0.cells rr.2) 99]) (fun rr=>.agg (C0.cells rr.1))) (D4 res B3 [.dead])
theorem Zp (x1:Str×D0)(x7:E0×D0)(o2_Params2:List C0):(∀ o02 o2_Vars res,U4 o02 x1 x7 o2_Params2 o2_Vars=some res→Kj o02 x1 x7 o2_Params2 o2_Vars res):=by
 refine U4.partial_correctness x1 x7 o2_Params2 _ ?_
 ·intro g0 ih0 o02 o2_Vars res hh
  obtain ⟨x9,hx9,hh⟩:=bs' hh
  refine X0.unroll (S' (p' 1 rfl (gq [0] (T0 hx9) rfl (n' (ci' rfl hh (fun hh=>?_) (fun hh=>?_))))))
  ·refine sk' (bk' ?_)
   rcases bp' hh with ⟨nn,hx10,⟨⟩⟩ | ⟨x10,hx10,hh⟩
   ·refine AEx.drawE hC ?_
    refine st2 0 2 rfl (by kernel_rfl) rfl rfl ?_ ?_
    ·refine e' rfl ?_
     refine st2 1 2 rfl (by kernel_rfl) rfl rfl ?_ ?_
     ·refine e' rfl ?_
      refine st1 2 rfl (by kernel_rfl) rfl ?_
      refine e' rfl ?_
      refine st1 3 rfl (by kernel_rfl) rfl ?_
      exact gr [0] (B2 hx10) rfl (peW ⟨trivial,trivial⟩ rfl)
     ·refine e' rfl ?_
      refine st2 1 3 rfl (by kernel_rfl) rfl rfl ?_ ?_
      ·refine e' rfl ?_
       refine st1 3 rfl (by kernel_rfl) rfl ?_
       exact gr [0] (B2 hx10) rfl (peW ⟨trivial,trivial⟩ rfl)
      ·exact gr [0] (B2 hx10) rfl (peW ⟨trivial,trivial⟩ rfl)
    ·refine e' rfl ?_
     refine st2 0 3 rfl (by kernel_rfl) rfl rfl ?_ ?_
     ·refine e' rfl ?_
      refine st2 1 3 rfl (by kernel_rfl) rfl rfl ?_ ?_
      ·refine e' rfl ?_
       refine st1 3 rfl (by kernel_rfl) rfl ?_
       exact gr [0] (B2 hx10) rfl (peW ⟨trivial,trivial⟩ rfl)
      ·exact gr [0] (B2 hx10) rfl (peW ⟨trivial,trivial⟩ rfl)
     ·exact gr [0] (B2 hx10) rfl (peW ⟨trivial,trivial⟩ rfl)
   obtain ⟨c35,hh⟩:=N0 hh
   refine AEx.drawE hC ?_
   refine st2 0 2 rfl (by kernel_rfl) rfl rfl ?_ ?_
   ·refine e' rfl ?_
    refine st2 1 2 rfl (by kernel_rfl) rfl rfl ?_ ?_
    ·refine e' rfl ?_
     refine st1 2 rfl (by kernel_rfl) rfl ?_
     refine e' rfl ?_
     refine st1 3 rfl (by kernel_rfl) rfl ?_
     refine gq [0] ((B2 hx10).ok) rfl (n' ?_)
     refine st1 4 rfl (by kernel_rfl) rfl ?_
     refine F0.be hC rfl (C0.rows_map [x10.1]).symm (n' ?_)
     refine st1 5 rfl (by kernel_rfl) rfl ?_
     refine F0.ap hC rfl (rs:=C0.rows (o2_Vars++[x10.1])) (C0.app o2_Vars [x10.1]) (C0.sz o2_Vars) (C0.sz [x10.1]) (Q1 (C0.len o2_Vars) (C0.len [x10.1]) c35) (n' ?_)
     refine st1 6 rfl (by kernel_rfl) rfl ?_
     refine e' rfl ?_
     refine st1 7 rfl (by kernel_rfl) rfl ?_
     exact F0.s hC rfl (n' (W0.nil (by kernel_rfl) (lq (ih0 _ _ _ hh) rfl)))
    ·refine e' rfl ?_
     refine st2 1 3 rfl (by kernel_rfl) rfl rfl ?_ ?_
     ·refine e' rfl ?_
      refine st1 3 rfl (by kernel_rfl) rfl ?_
      refine gq [0] ((B2 hx10).ok) rfl (n' ?_)
      refine st1 4 rfl (by kernel_rfl) rfl ?_
      refine F0.be hC rfl (C0.rows_map [x10.1]).symm (n' ?_)
      refine st1 5 rfl (by kernel_rfl) rfl ?_
      refine F0.ap hC rfl (rs:=C0.rows (o2_Vars++[x10.1])) (C0.app o2_Vars [x10.1]) (C0.sz o2_Vars) (C0.sz [x10.1]) (Q1 (C0.len o2_Vars) (C0.len [x10.1]) c35) (n' ?_)
      refine st1 6 rfl (by kernel_rfl) rfl ?_
      refine e' rfl ?_
      refine st1 7 rfl (by kernel_rfl) rfl ?_
      exact F0.s hC rfl (n' (W0.nil (by kernel_rfl) (lq (ih0 _ _ _ hh) rfl)))
     ·refine gq [0] ((B2 hx10).ok) rfl (n' ?_)
      refine st2 1 4 rfl (by kernel_rfl) rfl rfl ?_ ?_
      ·refine e' rfl ?_
       refine st1 4 rfl (by kernel_rfl) rfl ?_
       refine F0.be hC rfl (C0.rows_map [x10.1]).symm (n' ?_)
       refine st1 5 rfl (by kernel_rfl) rfl ?_
       refine F0.ap hC rfl (rs:=C0.rows (o2_Vars++[x10.1])) (C0.app o2_Vars [x10.1]) (C0.sz o2_Vars) (C0.sz [x10.1]) (Q1 (C0.len o2_Vars) (C0.len [x10.1]) c35) (n' ?_)
       refine st1 6 rfl (by kernel_rfl) rfl ?_
       refine e' rfl ?_
       refine st1 7 rfl (by kernel_rfl) rfl ?_
       exact F0.s hC rfl (n' (W0.nil (by kernel_rfl) (lq (ih0 _ _ _ hh) rfl)))
      ·refine F0.be hC rfl (C0.rows_map [x10.1]).symm (n' ?_)
       refine st1 1 rfl (by kernel_rfl) rfl ?_
       refine e' rfl ?_
       refine st1 5 rfl (by kernel_rfl) rfl ?_
       refine F0.ap hC rfl (rs:=C0.rows (o2_Vars++[x10.1])) (C0.app o2_Vars [x10.1]) (C0.sz o2_Vars) (C0.sz [x10.1]) (Q1 (C0.len o2_Vars) (C0.len [x10.1]) c35) (n' ?_)
       refine st1 6 rfl (by kernel_rfl) rfl ?_
       refine e' rfl ?_
       refine st1 7 rfl (by kernel_rfl) rfl ?_
       exact F0.s hC rfl (n' (W0.nil (by kernel_rfl) (lq (ih0 _ _ _ hh) rfl)))
   ·refine e' rfl ?_
    refine st2 0 3 rfl (by kernel_rfl) rfl rfl ?_ ?_
    ·refine e' rfl ?_
     refine st2 1 3 rfl (by kernel_rfl) rfl rfl ?_ ?_
     ·refine e' rfl ?_
      refine st1 3 rfl (by kernel_rfl) rfl ?_
      refine gq [0] ((B2 hx10).ok) rfl (n' ?_)
      refine st1 4 rfl (by kernel_rfl) rfl ?_
      refine F0.be hC rfl (C0.rows_map [x10.1]).symm (n' ?_)
      refine st1 5 rfl (by kernel_rfl) rfl ?_
      refine F0.ap hC rfl (rs:=C0.rows (o2_Vars++[x10.1])) (C0.app o2_Vars [x10.1]) (C0.sz o2_Vars) (C0.sz [x10.1]) (Q1 (C0.len o2_Vars) (C0.len [x10.1]) c35) (n' ?_)
      refine st1 6 rfl (by kernel_rfl) rfl ?_
      refine e' rfl ?_
      refine st1 7 rfl (by kernel_rfl) rfl ?_
      exact F0.s hC rfl (n' (W0.nil (by kernel_rfl) (lq (ih0 _ _ _ hh) rfl)))
     ·refine gq [0] ((B2 hx10).ok) rfl (n' ?_)
      refine st2 1 4 rfl (by kernel_rfl) rfl rfl ?_ ?_
      ·refine e' rfl ?_
       refine st1 4 rfl (by kernel_rfl) rfl ?_
       refine F0.be hC rfl (C0.rows_map [x10.1]).symm (n' ?_)
       refine st1 5 rfl (by kernel_rfl) rfl ?_
       refine F0.ap hC rfl (rs:=C0.rows (o2_Vars++[x10.1])) (C0.app o2_Vars [x10.1]) (C0.sz o2_Vars) (C0.sz [x10.1]) (Q1 (C0.len o2_Vars) (C0.len [x10.1]) c35) (n' ?_)
       refine st1 6 rfl (by kernel_rfl) rfl ?_
       refine e' rfl ?_
       refine st1 7 rfl (by kernel_rfl) rfl ?_
       exact F0.s hC rfl (n' (W0.nil (by kernel_rfl) (lq (ih0 _ _ _ hh) rfl)))
      ·refine F0.be hC rfl (C0.rows_map [x10.1]).symm (n' ?_)
       refine st1 1 rfl (by kernel_rfl) rfl ?_
       refine e' rfl ?_
       refine st1 5 rfl (by kernel_rfl) rfl ?_
       refine F0.ap hC rfl (rs:=C0.rows (o2_Vars++[x10.1])) (C0.app o2_Vars [x10.1]) (C0.sz o2_Vars) (C0.sz [x10.1]) (Q1 (C0.len o2_Vars) (C0.len [x10.1]) c35) (n' ?_)
       refine st1 6 rfl (by kernel_rfl) rfl ?_
       refine e' rfl ?_
       refine st1 7 rfl (by kernel_rfl) rfl ?_
       exact F0.s hC rfl (n' (W0.nil (by kernel_rfl) (lq (ih0 _ _ _ hh) rfl)))
    ·refine gq [0] ((B2 hx10).ok) rfl (n' ?_)
     refine st2 0 4 rfl (by kernel_rfl) rfl rfl ?_ ?_
     ·refine e' rfl ?_
      refine st2 1 4 rfl (by kernel_rfl) rfl rfl ?_ ?_
      ·refine e' rfl ?_
       refine st1 4 rfl (by kernel_rfl) rfl ?_
       refine F0.be hC rfl (C0.rows_map [x10.1]).symm (n' ?_)
       refine st1 5 rfl (by kernel_rfl) rfl ?_
       refine F0.ap hC rfl (rs:=C0.rows (o2_Vars++[x10.1])) (C0.app o2_Vars [x10.1]) (C0.sz o2_Vars) (C0.sz [x10.1]) (Q1 (C0.len o2_Vars) (C0.len [x10.1]) c35) (n' ?_)
       refine st1 6 rfl (by kernel_rfl) rfl ?_
       refine e' rfl ?_
       refine st1 7 rfl (by kernel_rfl) rfl ?_
       exact F0.s hC rfl (n' (W0.nil (by kernel_rfl) (lq (ih0 _ _ _ hh) rfl)))
      ·refine F0.be hC rfl (C0.rows_map [x10.1]).symm (n' ?_)
       refine st1 1 rfl (by kernel_rfl) rfl ?_
       refine e' rfl ?_
       refine st1 5 rfl (by kernel_rfl) rfl ?_
       refine F0.ap hC rfl (rs:=C0.rows (o2_Vars++[x10.1])) (C0.app o2_Vars [x10.1]) (C0.sz o2_Vars) (C0.sz [x10.1]) (Q1 (C0.len o2_Vars) (C0.len [x10.1]) c35) (n' ?_)
       refine st1 6 rfl (by kernel_rfl) rfl ?_
       refine e' rfl ?_
       refine st1 7 rfl (by kernel_rfl) rfl ?_
       exact F0.s hC rfl (n' (W0.nil (by kernel_rfl) (lq (ih0 _ _ _ hh) rfl)))
     ·refine F0.be hC rfl (C0.rows_map [x10.1]).symm (n' ?_)
      refine st1 0 rfl (by kernel_rfl) rfl ?_
      refine e' rfl ?_
      refine st1 1 rfl (by kernel_rfl) rfl ?_
      refine e' rfl ?_
      refine st1 5 rfl (by kernel_rfl) rfl ?_
      refine F0.ap hC rfl (rs:=C0.rows (o2_Vars++[x10.1])) (C0.app o2_Vars [x10.1]) (C0.sz o2_Vars) (C0.sz [x10.1]) (Q1 (C0.len o2_Vars) (C0.len [x10.1]) c35) (n' ?_)
      refine st1 6 rfl (by kernel_rfl) rfl ?_
      refine e' rfl ?_
      refine st1 7 rfl (by kernel_rfl) rfl ?_
      exact F0.s hC rfl (n' (W0.nil (by kernel_rfl) (lq (ih0 _ _ _ hh) rfl)))
  refine ex' (p' 1 rfl ?_)
  rcases bp' hh with ⟨nn,hx11,⟨⟩⟩ | ⟨x11,hx11,hh⟩
  ·exact gr [0] (Ua hx11) rfl (peW ⟨trivial,trivial⟩ rfl)
  refine gq [0] ((Ua hx11).ok) rfl (q' rfl (F0.s hC rfl (n' (p' 1 rfl ?_))))
  rcases bp' hh with ⟨nn,hx12,⟨⟩⟩ | ⟨x12,hx12,hh⟩
  ·exact gr [0] (J0 hx12) rfl (peW ⟨trivial,trivial⟩ rfl)
  refine gq [0] ((J0 hx12).ok) rfl (n' (p' 1 rfl ?_))
  rcases bp' hh with ⟨nn,hx13,⟨⟩⟩ | ⟨x13,hx13,hh⟩
  ·exact gr [0] (V0 hx13) rfl (peW ⟨trivial,trivial⟩ rfl)
  refine gq [0] ((V0 hx13).ok) rfl (q' rfl (F0.s hC rfl (n' (p' 1 rfl ?_))))
  rcases bp' hh with ⟨nn,hx14,⟨⟩⟩ | ⟨x14,hx14,hh⟩
  ·exact gr [0] (J0 hx14) rfl (peW ⟨trivial,trivial⟩ rfl)
  refine gq [0] ((J0 hx14).ok) rfl (n' (p' 1 rfl ?_))
  rcases bp' hh with ⟨nn,hx15,⟨⟩⟩ | ⟨x15,hx15,hh⟩
  ·exact gr [0] (J0 hx15) rfl (peW ⟨trivial,trivial⟩ rfl)
  refine gq [0] ((J0 hx15).ok) rfl (n' (p' 1 rfl (F0.s hC rfl (n' (re' ?_)))))
  obtain rfl:=oi' hh
  exact ⟨_,.agg [.d (.int .i64 6),.d (.str x1.1),.d (.int .i64 x7.1.Kind),.d (.int .i64 x7.1.Low),.d (.int .i64 x7.1.High),.d (.int .i64 x7.1.Size),.d (.str x7.1.Name),.d (.sl (estr.rows x7.1.Names)),.d (.sl (E0.rows x7.1.Of)),.d (.int .i64 0),.d (.int .i64 x13.1.Op),.d (.int .i64 x13.1.NV),.d (.str x13.1.Name),.d (.sl (A0.rows x13.1.Kids)),.d (.sl (C0.rows o2_Params2)),.d (.sl (C0.rows o2_Vars)),.d (.sl (B0.rows x11.1))],[.row (D0.cells x15) 99],rfl,(.aggL ⟨.rfl,.rfl,.rfl,.rfl,.rfl,.rfl,.rfl,.rfl,.rfl,.rfl,.rfl,.rfl,.rfl,.rfl,.osl,.osl,.rfl,trivial⟩),⟨⟨rfl,.refl _,rfl⟩,trivial⟩,rfl,rfl,rpq rfl rfl⟩
theorem Yq {o02 x1 x7 o2_Params2 o2_Vars res}(hh:U4 o02 x1 x7 o2_Params2 o2_Vars=some res):Kj o02 x1 x7 o2_Params2 o2_Vars res:=(Zp x1 x7 o2_Params2) _ _ _ hh
def V4 (o01:D0)(x1:Str×D0)(o2_Params1:List C0):Option (Pn (C0×D0)):=
 U0 [41] o01>>=fun x5=>match x5 with
 | .pn nn=>
 some (.pn nn)
 | .ok x5=>
 U0 [58] x5>>=fun x6=>match x6 with
 | .pn nn=>
 some (.pn nn)
 | .ok x6=>
 T4 x6>>=fun x7=>match x7 with
 | .pn nn=>
 some (.pn nn)
 | .ok x7=>
 U0 [123] x7.2>>=fun x8=>match x8 with
 | .pn nn=>
 some (.pn nn)
 | .ok x8=>
 U4 x8 x1 x7 o2_Params1 []
theorem Ti {o01 x1 o2_Params1 res}(hh:V4 o01 x1 o2_Params1=some res):JMp C 58 1 Tryz.f141 [1,1,1,1] [(0,.ref 0 0),(2,.ref 1 0),(3,.ref 2 0)] [.row (D0.cells o01) 99,.row [.d (.int .i64 0),.d (.str []),.d (.int .i64 0),.d (.int .i64 0),.d (.int .i64 0),.d (.int .i64 0),.d (.str []),.full (estr.rows []),.full (E0.rows []),.d (.int .i64 0),.d (.int .i64 0),.d (.int .i64 0),.d (.str []),.full (A0.rows []),.full (C0.rows []),.full (C0.rows []),.full (B0.rows [])] 128,.row [.d (.int .i64 6),.d (.str x1.1),.d (.int .i64 0),.d (.int .i64 0),.d (.int .i64 0),.d (.int .i64 0),.d (.str []),.full (estr.rows []),.full (E0.rows []),.d (.int .i64 0),.d (.int .i64 0),.d (.int .i64 0),.d (.str []),.full (A0.rows []),.osl 3 (C0.rows o2_Params1),.osl 4 (C0.rows []),.full (B0.rows [])] 128,.tok 128 17,.tok 128 17] (F4 res (fun rr=>[.row (D0.cells rr.2) 99]) (fun rr=>.agg (C0.cells rr.1))) (D4 res B3 [.dead]):=by
 unfold V4 at hh
 refine p' 1 rfl ?_
 rcases bp' hh with ⟨nn,hx5,⟨⟩⟩ | ⟨x5,hx5,hh⟩
 ·exact gr [0] (J0 hx5) rfl (peW ⟨trivial,trivial⟩ rfl)
 refine gq [0] ((J0 hx5).ok) rfl (n' (p' 1 rfl ?_))
 rcases bp' hh with ⟨nn,hx6,⟨⟩⟩ | ⟨x6,hx6,hh⟩
 ·exact gr [0] (J0 hx6) rfl (peW ⟨trivial,trivial⟩ rfl)
 refine gq [0] ((J0 hx6).ok) rfl (n' (p' 1 rfl ?_))
 rcases bp' hh with ⟨nn,hx7,⟨⟩⟩ | ⟨x7,hx7,hh⟩
 ·exact gr [0] (Ba hx7) rfl (peW ⟨trivial,trivial⟩ rfl)
 refine gq [0] ((Ba hx7).ok) rfl (q' rfl (F0.s hC rfl (n' (p' 1 rfl ?_))))
 rcases bp' hh with ⟨nn,hx8,⟨⟩⟩ | ⟨x8,hx8,hh⟩
 ·exact gr [0] (J0 hx8) rfl (peW ⟨trivial,trivial⟩ rfl)
 exact gq [0] ((J0 hx8).ok) rfl (n' (S' (bk' (fq (Yq hh) rfl))))
def W4 (o0:D0)(x1:Str×D0)(o2_Params:List C0):Option (Pn (C0×D0)):=
 S0 [44] o0>>=fun x16=>
 if x16.1=true then
  S2 4 x16.2>>=fun x17=>match x17 with
  | .pn nn=>
  some (.pn nn)
  | .ok x17=>
  if (decide ((o2_Params.length+1) * 257≤140737488355328))=true then
   W4 x17.2 x1 (o2_Params++[x17.1])
  else none
 else
  V4 x16.2 x1 o2_Params
 partial_fixpoint
abbrev Lj (o0:D0)(x1:Str×D0)(o2_Params:List C0)(res:Pn (C0×D0)):Prop:=LMp C 58 1 Tryz.f141 [1,1,1,0,1,2,1,4] [(0,.ref 0 0),(2,.ref 1 0),(3,.ref 2 0)] [.row (D0.cells o0) 99,.row [.d (.int .i64 0),.d (.str []),.d (.int .i64 0),.d (.int .i64 0),.d (.int .i64 0),.d (.int .i64 0),.d (.str []),.full (estr.rows []),.full (E0.rows []),.d (.int .i64 0),.d (.int .i64 0),.d (.int .i64 0),.d (.str []),.full (A0.rows []),.full (C0.rows []),.full (C0.rows []),.full (B0.rows [])] 128,.row [.d (.int .i64 6),.d (.str x1.1),.d (.int .i64 0),.d (.int .i64 0),.d (.int .i64 0),.d (.int .i64 0),.d (.str []),.full (estr.rows []),.full (E0.rows []),.d (.int .i64 0),.d (.int .i64 0),.d (.int .i64 0),.d (.str []),.full (A0.rows []),.osl 3 (C0.rows o2_Params),.osl 4 (C0.rows []),.full (B0.rows [])] 128,.tok 128 17,.tok 128 17] (F4 res (fun rr=>[.row (D0.cells rr.2) 99]) (fun rr=>.agg (C0.cells rr.1))) (D4 res B3 [.dead])
theorem Aq (x1:Str×D0):(∀ o0 o2_Params res,W4 o0 x1 o2_Params=some res→Lj o0 x1 o2_Params res):=by
 refine W4.partial_correctness x1 _ ?_
 ·intro g0 ih0 o0 o2_Params res hh
  obtain ⟨x16,hx16,hh⟩:=bs' hh
  refine X0.unroll (S' (p' 1 rfl (gq [0] (T0 hx16) rfl (n' (ci' rfl hh (fun hh=>?_) (fun hh=>?_))))))
  ·refine sk' (bk' ?_)
   rcases bp' hh with ⟨nn,hx17,⟨⟩⟩ | ⟨x17,hx17,hh⟩
   ·refine AEx.drawE hC ?_
    refine st2 0 2 rfl (by kernel_rfl) rfl rfl ?_ ?_
    ·refine e' rfl ?_
     refine st2 1 2 rfl (by kernel_rfl) rfl rfl ?_ ?_
     ·refine e' rfl ?_
      refine st1 2 rfl (by kernel_rfl) rfl ?_
      refine e' rfl ?_
      refine st1 3 rfl (by kernel_rfl) rfl ?_
      exact gr [0] (A1 hx17) rfl (peW ⟨trivial,trivial⟩ rfl)
     ·refine e' rfl ?_
      refine st2 1 3 rfl (by kernel_rfl) rfl rfl ?_ ?_
      ·refine e' rfl ?_
       refine st1 3 rfl (by kernel_rfl) rfl ?_
       exact gr [0] (A1 hx17) rfl (peW ⟨trivial,trivial⟩ rfl)
      ·exact gr [0] (A1 hx17) rfl (peW ⟨trivial,trivial⟩ rfl)
    ·refine e' rfl ?_
     refine st2 0 3 rfl (by kernel_rfl) rfl rfl ?_ ?_
     ·refine e' rfl ?_
      refine st2 1 3 rfl (by kernel_rfl) rfl rfl ?_ ?_
      ·refine e' rfl ?_
       refine st1 3 rfl (by kernel_rfl) rfl ?_
       exact gr [0] (A1 hx17) rfl (peW ⟨trivial,trivial⟩ rfl)
      ·exact gr [0] (A1 hx17) rfl (peW ⟨trivial,trivial⟩ rfl)
     ·exact gr [0] (A1 hx17) rfl (peW ⟨trivial,trivial⟩ rfl)
   obtain ⟨c34,hh⟩:=N0 hh
   refine AEx.drawE hC ?_
   refine st2 0 2 rfl (by kernel_rfl) rfl rfl ?_ ?_
   ·refine e' rfl ?_
    refine st2 1 2 rfl (by kernel_rfl) rfl rfl ?_ ?_
    ·refine e' rfl ?_
     refine st1 2 rfl (by kernel_rfl) rfl ?_
     refine e' rfl ?_
     refine st1 3 rfl (by kernel_rfl) rfl ?_
     refine gq [0] ((A1 hx17).ok) rfl (n' ?_)
     refine st1 4 rfl (by kernel_rfl) rfl ?_
     refine F0.be hC rfl (C0.rows_map [x17.1]).symm (n' ?_)
     refine st1 5 rfl (by kernel_rfl) rfl ?_
     refine F0.ap hC rfl (rs:=C0.rows (o2_Params++[x17.1])) (C0.app o2_Params [x17.1]) (C0.sz o2_Params) (C0.sz [x17.1]) (Q1 (C0.len o2_Params) (C0.len [x17.1]) c34) (n' ?_)
     refine st1 6 rfl (by kernel_rfl) rfl ?_
     refine e' rfl ?_
     refine st1 7 rfl (by kernel_rfl) rfl ?_
     exact F0.s hC rfl (n' (W0.nil (by kernel_rfl) (lq (ih0 _ _ _ hh) rfl)))
    ·refine e' rfl ?_
     refine st2 1 3 rfl (by kernel_rfl) rfl rfl ?_ ?_
     ·refine e' rfl ?_
      refine st1 3 rfl (by kernel_rfl) rfl ?_
      refine gq [0] ((A1 hx17).ok) rfl (n' ?_)
      refine st1 4 rfl (by kernel_rfl) rfl ?_
      refine F0.be hC rfl (C0.rows_map [x17.1]).symm (n' ?_)
      refine st1 5 rfl (by kernel_rfl) rfl ?_
      refine F0.ap hC rfl (rs:=C0.rows (o2_Params++[x17.1])) (C0.app o2_Params [x17.1]) (C0.sz o2_Params) (C0.sz [x17.1]) (Q1 (C0.len o2_Params) (C0.len [x17.1]) c34) (n' ?_)
      refine st1 6 rfl (by kernel_rfl) rfl ?_
      refine e' rfl ?_
      refine st1 7 rfl (by kernel_rfl) rfl ?_
      exact F0.s hC rfl (n' (W0.nil (by kernel_rfl) (lq (ih0 _ _ _ hh) rfl)))
     ·refine gq [0] ((A1 hx17).ok) rfl (n' ?_)
      refine st2 1 4 rfl (by kernel_rfl) rfl rfl ?_ ?_
      ·refine e' rfl ?_
       refine st1 4 rfl (by kernel_rfl) rfl ?_
       refine F0.be hC rfl (C0.rows_map [x17.1]).symm (n' ?_)
       refine st1 5 rfl (by kernel_rfl) rfl ?_
       refine F0.ap hC rfl (rs:=C0.rows (o2_Params++[x17.1])) (C0.app o2_Params [x17.1]) (C0.sz o2_Params) (C0.sz [x17.1]) (Q1 (C0.len o2_Params) (C0.len [x17.1]) c34) (n' ?_)
       refine st1 6 rfl (by kernel_rfl) rfl ?_
       refine e' rfl ?_
       refine st1 7 rfl (by kernel_rfl) rfl ?_
       exact F0.s hC rfl (n' (W0.nil (by kernel_rfl) (lq (ih0 _ _ _ hh) rfl)))
      ·refine F0.be hC rfl (C0.rows_map [x17.1]).symm (n' ?_)
       refine st1 1 rfl (by kernel_rfl) rfl ?_
       refine e' rfl ?_
       refine st1 5 rfl (by kernel_rfl) rfl ?_
       refine F0.ap hC rfl (rs:=C0.rows (o2_Params++[x17.1])) (C0.app o2_Params [x17.1]) (C0.sz o2_Params) (C0.sz [x17.1]) (Q1 (C0.len o2_Params) (C0.len [x17.1]) c34) (n' ?_)
       refine st1 6 rfl (by kernel_rfl) rfl ?_
       refine e' rfl ?_
       refine st1 7 rfl (by kernel_rfl) rfl ?_
       exact F0.s hC rfl (n' (W0.nil (by kernel_rfl) (lq (ih0 _ _ _ hh) rfl)))
   ·refine e' rfl ?_
    refine st2 0 3 rfl (by kernel_rfl) rfl rfl ?_ ?_
    ·refine e' rfl ?_
     refine st2 1 3 rfl (by kernel_rfl) rfl rfl ?_ ?_
     ·refine e' rfl ?_
      refine st1 3 rfl (by kernel_rfl) rfl ?_
      refine gq [0] ((A1 hx17).ok) rfl (n' ?_)
      refine st1 4 rfl (by kernel_rfl) rfl ?_
      refine F0.be hC rfl (C0.rows_map [x17.1]).symm (n' ?_)
      refine st1 5 rfl (by kernel_rfl) rfl ?_
      refine F0.ap hC rfl (rs:=C0.rows (o2_Params++[x17.1])) (C0.app o2_Params [x17.1]) (C0.sz o2_Params) (C0.sz [x17.1]) (Q1 (C0.len o2_Params) (C0.len [x17.1]) c34) (n' ?_)
      refine st1 6 rfl (by kernel_rfl) rfl ?_
      refine e' rfl ?_
      refine st1 7 rfl (by kernel_rfl) rfl ?_
      exact F0.s hC rfl (n' (W0.nil (by kernel_rfl) (lq (ih0 _ _ _ hh) rfl)))
     ·refine gq [0] ((A1 hx17).ok) rfl (n' ?_)
      refine st2 1 4 rfl (by kernel_rfl) rfl rfl ?_ ?_
      ·refine e' rfl ?_
       refine st1 4 rfl (by kernel_rfl) rfl ?_
       refine F0.be hC rfl (C0.rows_map [x17.1]).symm (n' ?_)
       refine st1 5 rfl (by kernel_rfl) rfl ?_
       refine F0.ap hC rfl (rs:=C0.rows (o2_Params++[x17.1])) (C0.app o2_Params [x17.1]) (C0.sz o2_Params) (C0.sz [x17.1]) (Q1 (C0.len o2_Params) (C0.len [x17.1]) c34) (n' ?_)
       refine st1 6 rfl (by kernel_rfl) rfl ?_
       refine e' rfl ?_
       refine st1 7 rfl (by kernel_rfl) rfl ?_
       exact F0.s hC rfl (n' (W0.nil (by kernel_rfl) (lq (ih0 _ _ _ hh) rfl)))
      ·refine F0.be hC rfl (C0.rows_map [x17.1]).symm (n' ?_)
       refine st1 1 rfl (by kernel_rfl) rfl ?_
       refine e' rfl ?_
       refine st1 5 rfl (by kernel_rfl) rfl ?_
       refine F0.ap hC rfl (rs:=C0.rows (o2_Params++[x17.1])) (C0.app o2_Params [x17.1]) (C0.sz o2_Params) (C0.sz [x17.1]) (Q1 (C0.len o2_Params) (C0.len [x17.1]) c34) (n' ?_)
       refine st1 6 rfl (by kernel_rfl) rfl ?_
       refine e' rfl ?_
       refine st1 7 rfl (by kernel_rfl) rfl ?_
       exact F0.s hC rfl (n' (W0.nil (by kernel_rfl) (lq (ih0 _ _ _ hh) rfl)))
    ·refine gq [0] ((A1 hx17).ok) rfl (n' ?_)
     refine st2 0 4 rfl (by kernel_rfl) rfl rfl ?_ ?_
     ·refine e' rfl ?_
      refine st2 1 4 rfl (by kernel_rfl) rfl rfl ?_ ?_
      ·refine e' rfl ?_
       refine st1 4 rfl (by kernel_rfl) rfl ?_
       refine F0.be hC rfl (C0.rows_map [x17.1]).symm (n' ?_)
       refine st1 5 rfl (by kernel_rfl) rfl ?_
       refine F0.ap hC rfl (rs:=C0.rows (o2_Params++[x17.1])) (C0.app o2_Params [x17.1]) (C0.sz o2_Params) (C0.sz [x17.1]) (Q1 (C0.len o2_Params) (C0.len [x17.1]) c34) (n' ?_)
       refine st1 6 rfl (by kernel_rfl) rfl ?_
       refine e' rfl ?_
       refine st1 7 rfl (by kernel_rfl) rfl ?_
       exact F0.s hC rfl (n' (W0.nil (by kernel_rfl) (lq (ih0 _ _ _ hh) rfl)))
      ·refine F0.be hC rfl (C0.rows_map [x17.1]).symm (n' ?_)
       refine st1 1 rfl (by kernel_rfl) rfl ?_
       refine e' rfl ?_
       refine st1 5 rfl (by kernel_rfl) rfl ?_
       refine F0.ap hC rfl (rs:=C0.rows (o2_Params++[x17.1])) (C0.app o2_Params [x17.1]) (C0.sz o2_Params) (C0.sz [x17.1]) (Q1 (C0.len o2_Params) (C0.len [x17.1]) c34) (n' ?_)
       refine st1 6 rfl (by kernel_rfl) rfl ?_
       refine e' rfl ?_
       refine st1 7 rfl (by kernel_rfl) rfl ?_
       exact F0.s hC rfl (n' (W0.nil (by kernel_rfl) (lq (ih0 _ _ _ hh) rfl)))
     ·refine F0.be hC rfl (C0.rows_map [x17.1]).symm (n' ?_)
      refine st1 0 rfl (by kernel_rfl) rfl ?_
      refine e' rfl ?_
      refine st1 1 rfl (by kernel_rfl) rfl ?_
      refine e' rfl ?_
      refine st1 5 rfl (by kernel_rfl) rfl ?_
      refine F0.ap hC rfl (rs:=C0.rows (o2_Params++[x17.1])) (C0.app o2_Params [x17.1]) (C0.sz o2_Params) (C0.sz [x17.1]) (Q1 (C0.len o2_Params) (C0.len [x17.1]) c34) (n' ?_)
      refine st1 6 rfl (by kernel_rfl) rfl ?_
      refine e' rfl ?_
      refine st1 7 rfl (by kernel_rfl) rfl ?_
      exact F0.s hC rfl (n' (W0.nil (by kernel_rfl) (lq (ih0 _ _ _ hh) rfl)))
  exact ex' (eq' (Ti hh) rfl)
theorem Zq {o0 x1 o2_Params res}(hh:W4 o0 x1 o2_Params=some res):Lj o0 x1 o2_Params res:=(Aq x1) _ _ _ hh
def Vc (x4:C0×D0)(x1:Str×D0):Option (Pn (C0×D0)):=
 W4 x4.2 x1 [x4.1]
theorem Q2 {x4 x1 res}(hh:Vc x4 x1=some res):JMp C 58 1 Tryz.f141 [1,1,1,0,1,2,1] [(0,.ref 0 0),(2,.ref 1 0),(3,.ref 2 0)] [.row (D0.cells x4.2) 99,.row [.d (.int .i64 0),.d (.str []),.d (.int .i64 0),.d (.int .i64 0),.d (.int .i64 0),.d (.int .i64 0),.d (.str []),.full (estr.rows []),.full (E0.rows []),.d (.int .i64 0),.d (.int .i64 0),.d (.int .i64 0),.d (.str []),.full (A0.rows []),.full (C0.rows []),.full (C0.rows []),.full (B0.rows [])] 128,.row [.d (.int .i64 6),.d (.str x1.1),.d (.int .i64 0),.d (.int .i64 0),.d (.int .i64 0),.d (.int .i64 0),.d (.str []),.full (estr.rows []),.full (E0.rows []),.d (.int .i64 0),.d (.int .i64 0),.d (.int .i64 0),.d (.str []),.full (A0.rows []),.osl 3 (C0.rows [x4.1]),.osl 4 (C0.rows []),.full (B0.rows [])] 128,.tok 128 17,.tok 128 17] (F4 res (fun rr=>[.row (D0.cells rr.2) 99]) (fun rr=>.agg (C0.cells rr.1))) (D4 res B3 [.dead]):=by
 unfold Vc at hh
 exact bk' (fq (Zq hh) rfl)
def Fb (parserParser:D0):Option (Pn (C0×D0)):=
 Y2 parserParser>>=fun x1=>match x1 with
 | .pn nn=>
 some (.pn nn)
 | .ok x1=>
 U0 [40] x1.2>>=fun x2=>match x2 with
 | .pn nn=>
 some (.pn nn)
 | .ok x2=>
 G7 x2>>=fun x3=>
 if x3=true then
  S2 4 x2>>=fun x4=>match x4 with
  | .pn nn=>
  some (.pn nn)
  | .ok x4=>
  if (decide ((0+1) * 257≤140737488355328))=true then
   Vc x4 x1
  else none
 else
  V4 x2 x1 []
theorem Al {parserParser res}(hh:Fb parserParser=some res):C2 C 141 [.ref 0 0] [.row (D0.cells parserParser) 99] (F4 res (fun rr=>[.row (D0.cells rr.2) 99]) (fun rr=>.agg (C0.cells rr.1))) (D4 res B3 [.dead]):=by
 unfold Fb at hh
 refine C2.intro hC Tryz.func141 rfl rfl rfl (s' rfl rfl (F0.nf hC rfl (n' (p' 1 rfl ?_))))
 rcases bp' hh with ⟨nn,hx1,⟨⟩⟩ | ⟨x1,hx1,hh⟩
 ·exact gr [0] (E1 hx1) rfl (peW ⟨trivial,trivial⟩ rfl)
 refine gq [0] ((E1 hx1).ok) rfl (F0.bz hC rfl (F0.nf hC rfl (F0.s hC rfl (F0.tokC 2 14 128 17 rfl rfl rfl rfl rfl (F0.tokC 2 15 128 17 rfl rfl rfl rfl rfl (n' (p' 1 rfl ?_)))))))
 rcases bp' hh with ⟨nn,hx2,⟨⟩⟩ | ⟨x2,hx2,hh⟩
 ·exact gr [0] (J0 hx2) rfl (peW ⟨trivial,trivial⟩ rfl)
 obtain ⟨x3,hx3,hh⟩:=bs' hh
 refine gq [0] ((J0 hx2).ok) rfl (n' (S' (p' 1 rfl (gq [0] (Ch hx3) rfl (n' (ci' rfl hh (fun hh=>?_) (fun hh=>?_)))))))
 ·refine S' ?_
  rcases bp' hh with ⟨nn,hx4,⟨⟩⟩ | ⟨x4,hx4,hh⟩
  ·refine AEx.drawE hC ?_
   refine st2 0 2 rfl (by kernel_rfl) rfl rfl ?_ ?_
   ·refine e' rfl ?_
    refine st2 1 2 rfl (by kernel_rfl) rfl rfl ?_ ?_
    ·refine e' rfl ?_
     refine st1 2 rfl (by kernel_rfl) rfl ?_
     refine e' rfl ?_
     refine st1 3 rfl (by kernel_rfl) rfl ?_
     exact gr [0] (A1 hx4) rfl (peW ⟨trivial,trivial⟩ rfl)
    ·refine e' rfl ?_
     refine st2 1 3 rfl (by kernel_rfl) rfl rfl ?_ ?_
     ·refine e' rfl ?_
      refine st1 3 rfl (by kernel_rfl) rfl ?_
      exact gr [0] (A1 hx4) rfl (peW ⟨trivial,trivial⟩ rfl)
     ·exact gr [0] (A1 hx4) rfl (peW ⟨trivial,trivial⟩ rfl)
   ·refine e' rfl ?_
    refine st2 0 3 rfl (by kernel_rfl) rfl rfl ?_ ?_
    ·refine e' rfl ?_
     refine st2 1 3 rfl (by kernel_rfl) rfl rfl ?_ ?_
     ·refine e' rfl ?_
      refine st1 3 rfl (by kernel_rfl) rfl ?_
      exact gr [0] (A1 hx4) rfl (peW ⟨trivial,trivial⟩ rfl)
     ·exact gr [0] (A1 hx4) rfl (peW ⟨trivial,trivial⟩ rfl)
    ·exact gr [0] (A1 hx4) rfl (peW ⟨trivial,trivial⟩ rfl)
  obtain ⟨c33,hh⟩:=N0 hh
  refine AEx.drawE hC ?_
  refine st2 0 2 rfl (by kernel_rfl) rfl rfl ?_ ?_
  ·refine e' rfl ?_
   refine st2 1 2 rfl (by kernel_rfl) rfl rfl ?_ ?_
   ·refine e' rfl ?_
    refine st1 2 rfl (by kernel_rfl) rfl ?_
    refine e' rfl ?_
    refine st1 3 rfl (by kernel_rfl) rfl ?_
    refine gq [0] ((A1 hx4).ok) rfl (n' ?_)
    refine st1 4 rfl (by kernel_rfl) rfl ?_
    refine F0.be hC rfl (C0.rows_map [x4.1]).symm (n' ?_)
    refine st1 5 rfl (by kernel_rfl) rfl ?_
    refine F0.ap hC rfl (rs:=C0.rows [x4.1]) rfl (C0.sz []) (C0.sz [x4.1]) (Q1 (C0.len []) (C0.len [x4.1]) c33) (n' ?_)
    refine st1 6 rfl (by kernel_rfl) rfl ?_
    refine e' rfl ?_
    refine st1 7 rfl (by kernel_rfl) rfl ?_
    exact F0.s hC rfl (n' (W0.nil (by kernel_rfl) (eq' (Q2 hh) rfl)))
   ·refine e' rfl ?_
    refine st2 1 3 rfl (by kernel_rfl) rfl rfl ?_ ?_
    ·refine e' rfl ?_
     refine st1 3 rfl (by kernel_rfl) rfl ?_
     refine gq [0] ((A1 hx4).ok) rfl (n' ?_)
     refine st1 4 rfl (by kernel_rfl) rfl ?_
     refine F0.be hC rfl (C0.rows_map [x4.1]).symm (n' ?_)
     refine st1 5 rfl (by kernel_rfl) rfl ?_
     refine F0.ap hC rfl (rs:=C0.rows [x4.1]) rfl (C0.sz []) (C0.sz [x4.1]) (Q1 (C0.len []) (C0.len [x4.1]) c33) (n' ?_)
     refine st1 6 rfl (by kernel_rfl) rfl ?_
     refine e' rfl ?_
     refine st1 7 rfl (by kernel_rfl) rfl ?_
     exact F0.s hC rfl (n' (W0.nil (by kernel_rfl) (eq' (Q2 hh) rfl)))
    ·refine gq [0] ((A1 hx4).ok) rfl (n' ?_)
     refine st2 1 4 rfl (by kernel_rfl) rfl rfl ?_ ?_
     ·refine e' rfl ?_
      refine st1 4 rfl (by kernel_rfl) rfl ?_
      refine F0.be hC rfl (C0.rows_map [x4.1]).symm (n' ?_)
      refine st1 5 rfl (by kernel_rfl) rfl ?_
      refine F0.ap hC rfl (rs:=C0.rows [x4.1]) rfl (C0.sz []) (C0.sz [x4.1]) (Q1 (C0.len []) (C0.len [x4.1]) c33) (n' ?_)
      refine st1 6 rfl (by kernel_rfl) rfl ?_
      refine e' rfl ?_
      refine st1 7 rfl (by kernel_rfl) rfl ?_
      exact F0.s hC rfl (n' (W0.nil (by kernel_rfl) (eq' (Q2 hh) rfl)))
     ·refine F0.be hC rfl (C0.rows_map [x4.1]).symm (n' ?_)
      refine st1 1 rfl (by kernel_rfl) rfl ?_
      refine e' rfl ?_
      refine st1 5 rfl (by kernel_rfl) rfl ?_
      refine F0.ap hC rfl (rs:=C0.rows [x4.1]) rfl (C0.sz []) (C0.sz [x4.1]) (Q1 (C0.len []) (C0.len [x4.1]) c33) (n' ?_)
      refine st1 6 rfl (by kernel_rfl) rfl ?_
      refine e' rfl ?_
      refine st1 7 rfl (by kernel_rfl) rfl ?_
      exact F0.s hC rfl (n' (W0.nil (by kernel_rfl) (eq' (Q2 hh) rfl)))
  ·refine e' rfl ?_
   refine st2 0 3 rfl (by kernel_rfl) rfl rfl ?_ ?_
   ·refine e' rfl ?_
    refine st2 1 3 rfl (by kernel_rfl) rfl rfl ?_ ?_
    ·refine e' rfl ?_
     refine st1 3 rfl (by kernel_rfl) rfl ?_
     refine gq [0] ((A1 hx4).ok) rfl (n' ?_)
     refine st1 4 rfl (by kernel_rfl) rfl ?_
     refine F0.be hC rfl (C0.rows_map [x4.1]).symm (n' ?_)
     refine st1 5 rfl (by kernel_rfl) rfl ?_
     refine F0.ap hC rfl (rs:=C0.rows [x4.1]) rfl (C0.sz []) (C0.sz [x4.1]) (Q1 (C0.len []) (C0.len [x4.1]) c33) (n' ?_)
     refine st1 6 rfl (by kernel_rfl) rfl ?_
     refine e' rfl ?_
     refine st1 7 rfl (by kernel_rfl) rfl ?_
     exact F0.s hC rfl (n' (W0.nil (by kernel_rfl) (eq' (Q2 hh) rfl)))
    ·refine gq [0] ((A1 hx4).ok) rfl (n' ?_)
     refine st2 1 4 rfl (by kernel_rfl) rfl rfl ?_ ?_
     ·refine e' rfl ?_
      refine st1 4 rfl (by kernel_rfl) rfl ?_
      refine F0.be hC rfl (C0.rows_map [x4.1]).symm (n' ?_)
      refine st1 5 rfl (by kernel_rfl) rfl ?_
      refine F0.ap hC rfl (rs:=C0.rows [x4.1]) rfl (C0.sz []) (C0.sz [x4.1]) (Q1 (C0.len []) (C0.len [x4.1]) c33) (n' ?_)
      refine st1 6 rfl (by kernel_rfl) rfl ?_
      refine e' rfl ?_
      refine st1 7 rfl (by kernel_rfl) rfl ?_
      exact F0.s hC rfl (n' (W0.nil (by kernel_rfl) (eq' (Q2 hh) rfl)))
     ·refine F0.be hC rfl (C0.rows_map [x4.1]).symm (n' ?_)
      refine st1 1 rfl (by kernel_rfl) rfl ?_
      refine e' rfl ?_
      refine st1 5 rfl (by kernel_rfl) rfl ?_
      refine F0.ap hC rfl (rs:=C0.rows [x4.1]) rfl (C0.sz []) (C0.sz [x4.1]) (Q1 (C0.len []) (C0.len [x4.1]) c33) (n' ?_)
      refine st1 6 rfl (by kernel_rfl) rfl ?_
      refine e' rfl ?_
      refine st1 7 rfl (by kernel_rfl) rfl ?_
      exact F0.s hC rfl (n' (W0.nil (by kernel_rfl) (eq' (Q2 hh) rfl)))
   ·refine gq [0] ((A1 hx4).ok) rfl (n' ?_)
    refine st2 0 4 rfl (by kernel_rfl) rfl rfl ?_ ?_
    ·refine e' rfl ?_
     refine st2 1 4 rfl (by kernel_rfl) rfl rfl ?_ ?_
     ·refine e' rfl ?_
      refine st1 4 rfl (by kernel_rfl) rfl ?_
      refine F0.be hC rfl (C0.rows_map [x4.1]).symm (n' ?_)
      refine st1 5 rfl (by kernel_rfl) rfl ?_
      refine F0.ap hC rfl (rs:=C0.rows [x4.1]) rfl (C0.sz []) (C0.sz [x4.1]) (Q1 (C0.len []) (C0.len [x4.1]) c33) (n' ?_)
      refine st1 6 rfl (by kernel_rfl) rfl ?_
      refine e' rfl ?_
      refine st1 7 rfl (by kernel_rfl) rfl ?_
      exact F0.s hC rfl (n' (W0.nil (by kernel_rfl) (eq' (Q2 hh) rfl)))
     ·refine F0.be hC rfl (C0.rows_map [x4.1]).symm (n' ?_)
      refine st1 1 rfl (by kernel_rfl) rfl ?_
      refine e' rfl ?_
      refine st1 5 rfl (by kernel_rfl) rfl ?_
      refine F0.ap hC rfl (rs:=C0.rows [x4.1]) rfl (C0.sz []) (C0.sz [x4.1]) (Q1 (C0.len []) (C0.len [x4.1]) c33) (n' ?_)
      refine st1 6 rfl (by kernel_rfl) rfl ?_
      refine e' rfl ?_
      refine st1 7 rfl (by kernel_rfl) rfl ?_
      exact F0.s hC rfl (n' (W0.nil (by kernel_rfl) (eq' (Q2 hh) rfl)))
    ·refine F0.be hC rfl (C0.rows_map [x4.1]).symm (n' ?_)
     refine st1 0 rfl (by kernel_rfl) rfl ?_
     refine e' rfl ?_
     refine st1 1 rfl (by kernel_rfl) rfl ?_
     refine e' rfl ?_
     refine st1 5 rfl (by kernel_rfl) rfl ?_
     refine F0.ap hC rfl (rs:=C0.rows [x4.1]) rfl (C0.sz []) (C0.sz [x4.1]) (Q1 (C0.len []) (C0.len [x4.1]) c33) (n' ?_)
     refine st1 6 rfl (by kernel_rfl) rfl ?_
     refine e' rfl ?_
     refine st1 7 rfl (by kernel_rfl) rfl ?_
     exact F0.s hC rfl (n' (W0.nil (by kernel_rfl) (eq' (Q2 hh) rfl)))
 exact sk' (eq' (Ti hh) rfl)
def X4 (parserParser:D0):Option (Pn (C0×Bool×D0)):=
 S0 [116,121,112,101] parserParser>>=fun x1=>
 if x1.1=true then
  Y2 x1.2>>=fun x2=>match x2 with
  | .pn nn=>
  some (.pn nn)
  | .ok x2=>
  U0 [61] x2.2>>=fun x3=>match x3 with
  | .pn nn=>
  some (.pn nn)
  | .ok x3=>
  T4 x3>>=fun x4=>match x4 with
  | .pn nn=>
  some (.pn nn)
  | .ok x4=>
  U0 [59] x4.2>>=fun x5=>match x5 with
  | .pn nn=>
  some (.pn nn)
  | .ok x5=>
  some (.ok ((C0.mk 0 x2.1 x4.1 0 (A0.mk 0 0 [] []) [] [] []),true,x5))
 else
  S0 [115,101,99,114,101,116] x1.2>>=fun x6=>
  if x6.1=true then
   S2 1 x6.2>>=fun x7=>match x7 with
   | .pn nn=>
   some (.pn nn)
   | .ok x7=>
   U0 [59] x7.2>>=fun x8=>match x8 with
   | .pn nn=>
   some (.pn nn)
   | .ok x8=>
   some (.ok (x7.1,true,x8))
  else
   S0 [112,117,98,108,105,99] x6.2>>=fun x9=>
   if x9.1=true then
    S2 2 x9.2>>=fun x10=>match x10 with
    | .pn nn=>
    some (.pn nn)
    | .ok x10=>
    U0 [59] x10.2>>=fun x11=>match x11 with
    | .pn nn=>
    some (.pn nn)
    | .ok x11=>
    some (.ok (x10.1,true,x11))
   else
    S0 [114,97,110,100,111,109] x9.2>>=fun x12=>
    if x12.1=true then
     S2 3 x12.2>>=fun x13=>match x13 with
     | .pn nn=>
     some (.pn nn)
     | .ok x13=>
     U0 [59] x13.2>>=fun x14=>match x14 with
     | .pn nn=>
     some (.pn nn)
     | .ok x14=>
     some (.ok (x13.1,true,x14))
    else
     S0 [118,97,114] x12.2>>=fun x15=>
     if x15.1=true then
      U7 x15.2>>=fun x16=>match x16 with
      | .pn nn=>
      some (.pn nn)
      | .ok x16=>
      some (.ok (x16.1,true,x16.2))
     else
      S0 [104,97,116,99,104] x15.2>>=fun x17=>
      if x17.1=true then
       S2 5 x17.2>>=fun x18=>match x18 with
       | .pn nn=>
       some (.pn nn)
       | .ok x18=>
       U0 [61] x18.2>>=fun x19=>match x19 with
       | .pn nn=>
       some (.pn nn)
       | .ok x19=>
       G1 x19>>=fun x20=>match x20 with
       | .pn nn=>
       some (.pn nn)
       | .ok x20=>
       U0 [59] x20.2>>=fun x21=>match x21 with
       | .pn nn=>
       some (.pn nn)
       | .ok x21=>
       some (.ok ((C0.mk x18.1.Kind x18.1.Name x18.1.TypeV x18.1.Init x20.1 x18.1.Params x18.1.Vars x18.1.Body),true,x21))
      else
       S0 [102,117,110,99] x17.2>>=fun x22=>
       if x22.1=true then
        Fb x22.2>>=fun x23=>match x23 with
        | .pn nn=>
        some (.pn nn)
        | .ok x23=>
        some (.ok (x23.1,true,x23.2))
       else
        some (.ok ((C0.mk 0 [] (E0.mk 0 0 0 0 [] [] []) 0 (A0.mk 0 0 [] []) [] [] []),false,x22.2))
theorem Ui {parserParser res}(hh:X4 parserParser=some res):C2 C 87 [.ref 0 0] [.row (D0.cells parserParser) 99] (F4 res (fun rr=>[.row (D0.cells rr.2.2) 99]) (fun rr=>.tup [.agg (C0.cells rr.1),.d (.bool rr.2.1)])) (D4 res B3 [.dead]):=by
 unfold X4 at hh
 obtain ⟨x1,hx1,hh⟩:=bs' hh
 refine C2.intro hC Tryz.func87 rfl rfl rfl (s' rfl rfl (F0.nf hC rfl (e' rfl (s' rfl rfl (F0.nf hC rfl (n' (S' (bk' (p' 1 rfl (gq [0] (T0 hx1) rfl (e' rfl (ci' rfl hh (fun hh=>?_) (fun hh=>?_)))))))))))))
 ·refine p' 1 rfl ?_
  rcases bp' hh with ⟨nn,hx2,⟨⟩⟩ | ⟨x2,hx2,hh⟩
  ·exact gr [0] (E1 hx2) rfl (peW ⟨trivial,trivial⟩ rfl)
  refine gq [0] ((E1 hx2).ok) rfl (e' rfl (p' 1 rfl ?_))
  rcases bp' hh with ⟨nn,hx3,⟨⟩⟩ | ⟨x3,hx3,hh⟩
  ·exact gr [0] (J0 hx3) rfl (peW ⟨trivial,trivial⟩ rfl)
  refine gq [0] ((J0 hx3).ok) rfl (n' (p' 2 rfl ?_))
  rcases bp' hh with ⟨nn,hx4,⟨⟩⟩ | ⟨x4,hx4,hh⟩
  ·exact gr [0] (Ba hx4) rfl (peW ⟨trivial,trivial⟩ rfl)
  refine gq [0] ((Ba hx4).ok) rfl (q' rfl (F0.s hC rfl (n' (P' 1 rfl ?_))))
  rcases bp' hh with ⟨nn,hx5,⟨⟩⟩ | ⟨x5,hx5,hh⟩
  ·exact gr [0] (J0 hx5) rfl (peW ⟨trivial,trivial⟩ rfl)
  cases hh
  exact gq [0] ((J0 hx5).ok) rfl (n' (p' 1 rfl (F0.s hC rfl (e' rfl (re' (rq rfl))))))
 obtain ⟨x6,hx6,hh⟩:=bs' hh
 refine p' 1 rfl (gq [0] (T0 hx6) rfl (e' rfl (ci' rfl hh (fun hh=>?_) (fun hh=>?_))))
 ·refine p' 1 rfl ?_
  rcases bp' hh with ⟨nn,hx7,⟨⟩⟩ | ⟨x7,hx7,hh⟩
  ·exact gr [0] (A1 hx7) rfl (peW ⟨trivial,trivial⟩ rfl)
  refine gq [0] ((A1 hx7).ok) rfl (F0.s hC rfl (n' (P' 1 rfl ?_)))
  rcases bp' hh with ⟨nn,hx8,⟨⟩⟩ | ⟨x8,hx8,hh⟩
  ·exact gr [0] (J0 hx8) rfl (peW ⟨trivial,trivial⟩ rfl)
  cases hh
  exact gq [0] ((J0 hx8).ok) rfl (n' (p' 1 rfl (F0.s hC rfl (e' rfl (re' (rq rfl))))))
 obtain ⟨x9,hx9,hh⟩:=bs' hh
 refine p' 1 rfl (gq [0] (T0 hx9) rfl (e' rfl (ci' rfl hh (fun hh=>?_) (fun hh=>?_))))
 ·refine p' 1 rfl ?_
  rcases bp' hh with ⟨nn,hx10,⟨⟩⟩ | ⟨x10,hx10,hh⟩
  ·exact gr [0] (A1 hx10) rfl (peW ⟨trivial,trivial⟩ rfl)
  refine gq [0] ((A1 hx10).ok) rfl (F0.s hC rfl (n' (P' 1 rfl ?_)))
  rcases bp' hh with ⟨nn,hx11,⟨⟩⟩ | ⟨x11,hx11,hh⟩
  ·exact gr [0] (J0 hx11) rfl (peW ⟨trivial,trivial⟩ rfl)
  cases hh
  exact gq [0] ((J0 hx11).ok) rfl (n' (p' 1 rfl (F0.s hC rfl (e' rfl (re' (rq rfl))))))
 obtain ⟨x12,hx12,hh⟩:=bs' hh
 refine p' 1 rfl (gq [0] (T0 hx12) rfl (e' rfl (ci' rfl hh (fun hh=>?_) (fun hh=>?_))))
 ·refine p' 1 rfl ?_
  rcases bp' hh with ⟨nn,hx13,⟨⟩⟩ | ⟨x13,hx13,hh⟩
  ·exact gr [0] (A1 hx13) rfl (peW ⟨trivial,trivial⟩ rfl)
  refine gq [0] ((A1 hx13).ok) rfl (F0.s hC rfl (n' (P' 1 rfl ?_)))
  rcases bp' hh with ⟨nn,hx14,⟨⟩⟩ | ⟨x14,hx14,hh⟩
  ·exact gr [0] (J0 hx14) rfl (peW ⟨trivial,trivial⟩ rfl)
  cases hh
  exact gq [0] ((J0 hx14).ok) rfl (n' (p' 1 rfl (F0.s hC rfl (e' rfl (re' (rq rfl))))))
 obtain ⟨x15,hx15,hh⟩:=bs' hh
 refine p' 1 rfl (gq [0] (T0 hx15) rfl (e' rfl (ci' rfl hh (fun hh=>?_) (fun hh=>?_))))
 ·refine P' 1 rfl ?_
  rcases bp' hh with ⟨nn,hx16,⟨⟩⟩ | ⟨x16,hx16,hh⟩
  ·exact gr [0] (B2 hx16) rfl (peW ⟨trivial,trivial⟩ rfl)
  cases hh
  exact gq [0] ((B2 hx16).ok) rfl (F0.s hC rfl (n' (p' 1 rfl (F0.s hC rfl (e' rfl (re' (rq rfl)))))))
 obtain ⟨x17,hx17,hh⟩:=bs' hh
 refine p' 1 rfl (gq [0] (T0 hx17) rfl (e' rfl (ci' rfl hh (fun hh=>?_) (fun hh=>?_))))
 ·refine p' 1 rfl ?_
  rcases bp' hh with ⟨nn,hx18,⟨⟩⟩ | ⟨x18,hx18,hh⟩
  ·exact gr [0] (A1 hx18) rfl (peW ⟨trivial,trivial⟩ rfl)
  refine gq [0] ((A1 hx18).ok) rfl (F0.s hC rfl (n' (p' 1 rfl ?_)))
  rcases bp' hh with ⟨nn,hx19,⟨⟩⟩ | ⟨x19,hx19,hh⟩
  ·exact gr [0] (J0 hx19) rfl (peW ⟨trivial,trivial⟩ rfl)
  refine gq [0] ((J0 hx19).ok) rfl (n' (p' 1 rfl ?_))
  rcases bp' hh with ⟨nn,hx20,⟨⟩⟩ | ⟨x20,hx20,hh⟩
  ·exact gr [0] (V0 hx20) rfl (peW ⟨trivial,trivial⟩ rfl)
  refine gq [0] ((V0 hx20).ok) rfl (q' rfl (F0.s hC rfl (n' (P' 1 rfl ?_))))
  rcases bp' hh with ⟨nn,hx21,⟨⟩⟩ | ⟨x21,hx21,hh⟩
  ·exact gr [0] (J0 hx21) rfl (peW ⟨trivial,trivial⟩ rfl)
  cases hh
  exact gq [0] ((J0 hx21).ok) rfl (n' (p' 1 rfl (F0.s hC rfl (e' rfl (re' (rq rfl))))))
 obtain ⟨x22,hx22,hh⟩:=bs' hh
 refine p' 1 rfl (gq [0] (T0 hx22) rfl (e' rfl (ci' rfl hh (fun hh=>?_) (fun hh=>?_))))
 ·refine P' 1 rfl ?_
  rcases bp' hh with ⟨nn,hx23,⟨⟩⟩ | ⟨x23,hx23,hh⟩
  ·exact gr [0] (Al hx23) rfl (peW ⟨trivial,trivial⟩ rfl)
  cases hh
  exact gq [0] ((Al hx23).ok) rfl (F0.s hC rfl (n' (p' 1 rfl (F0.s hC rfl (e' rfl (re' (rq rfl)))))))
 refine p' 1 rfl (F0.s hC rfl (e' rfl (re' ?_)))
 obtain rfl:=oi' hh
 exact ⟨_,.tup [.agg [.d (.int .i64 0),.d (.str []),.d (.int .i64 0),.d (.int .i64 0),.d (.int .i64 0),.d (.int .i64 0),.d (.str []),.d (.sl (estr.rows [])),.d (.sl (E0.rows [])),.d (.int .i64 0),.d (.int .i64 0),.d (.int .i64 0),.d (.str []),.d (.sl (A0.rows [])),.d (.sl (C0.rows [])),.d (.sl (C0.rows [])),.d (.sl (B0.rows []))],.d (.bool false)],[.row (D0.cells x22.2) 99],rfl,(.tupL ⟨(.aggL ⟨.rfl,.rfl,.rfl,.rfl,.rfl,.rfl,.rfl,.full,.full,.rfl,.rfl,.rfl,.rfl,.full,.full,.full,.full,trivial⟩),.rfl,trivial⟩),⟨⟨rfl,.refl _,rfl⟩,trivial⟩,rfl,rfl,rpq rfl rfl⟩
def L5 (o0:D0)(o2_Decls:List C0):Option (Pn (O0×D0)):=
 X4 o0>>=fun x1=>match x1 with
 | .pn nn=>
 some (.pn nn)
 | .ok x1=>
 if (!x1.2.1)=true then
  U0 [98,101,103,105,110] x1.2.2>>=fun x2=>match x2 with
  | .pn nn=>
  some (.pn nn)
  | .ok x2=>
  O3 x2>>=fun x3=>match x3 with
  | .pn nn=>
  some (.pn nn)
  | .ok x3=>
  U0 [101,110,100] x3.2>>=fun x4=>match x4 with
  | .pn nn=>
  some (.pn nn)
  | .ok x4=>
  some (.ok ((O0.mk o2_Decls x3.1),x4))
 else
  if (decide ((o2_Decls.length+1) * 257≤140737488355328))=true then
   L5 x1.2.2 (o2_Decls++[x1.1])
  else none
 partial_fixpoint
abbrev Jk (o0:D0)(o2_Decls:List C0)(res:Pn (O0×D0)):Prop:=LMp C 27 1 Tryz.f46 [1,1,0,4] [(0,.ref 0 0),(2,.ref 1 0),(3,.ref 2 0)] [.row (D0.cells o0) 99,.row [.full (C0.rows []),.full (B0.rows [])] 49,.row [.osl 3 (C0.rows o2_Decls),.full (B0.rows [])] 49,.tok 128 17] (F4 res (fun rr=>[.row (D0.cells rr.2) 99]) (fun rr=>.agg (O0.cells rr.1))) (D4 res B3 [.dead])
theorem Ar:(∀ o0 o2_Decls res,L5 o0 o2_Decls=some res→Jk o0 o2_Decls res):=by
 refine L5.partial_correctness _ ?_
 ·intro g0 ih0 o0 o2_Decls res hh
  refine X0.unroll (bk' (p' 1 rfl ?_))
  rcases bp' hh with ⟨nn,hx1,⟨⟩⟩ | ⟨x1,hx1,hh⟩
  ·exact gr [0] (Ui hx1) rfl (peW ⟨trivial,trivial⟩ rfl)
  refine gq [0] ((Ui hx1).ok) rfl (o' 3 rfl (F0.nf hC rfl (F0.s hC rfl (e' rfl (S' (t' rfl (ci' rfl hh (fun hh=>?_) (fun hh=>?_))))))))
  ·refine ex' (p' 1 rfl ?_)
   rcases bp' hh with ⟨nn,hx2,⟨⟩⟩ | ⟨x2,hx2,hh⟩
   ·exact gr [0] (J0 hx2) rfl (peW ⟨trivial,trivial⟩ rfl)
   refine gq [0] ((J0 hx2).ok) rfl (n' (p' 1 rfl ?_))
   rcases bp' hh with ⟨nn,hx3,⟨⟩⟩ | ⟨x3,hx3,hh⟩
   ·exact gr [0] (Ua hx3) rfl (peW ⟨trivial,trivial⟩ rfl)
   refine gq [0] ((Ua hx3).ok) rfl (q' rfl (F0.s hC rfl (n' (p' 1 rfl ?_))))
   rcases bp' hh with ⟨nn,hx4,⟨⟩⟩ | ⟨x4,hx4,hh⟩
   ·exact gr [0] (J0 hx4) rfl (peW ⟨trivial,trivial⟩ rfl)
   refine gq [0] ((J0 hx4).ok) rfl (n' (p' 1 rfl (F0.s hC rfl (n' (re' ?_)))))
   obtain rfl:=oi' hh
   exact ⟨_,.agg [.d (.sl (C0.rows o2_Decls)),.d (.sl (B0.rows x3.1))],[.row (D0.cells x4) 99],rfl,(.aggL ⟨.osl,.rfl,trivial⟩),⟨⟨rfl,.refl _,rfl⟩,trivial⟩,rfl,rfl,rpq rfl rfl⟩
  obtain ⟨c6,hh⟩:=N0 hh
  exact sk' (P' 3 rfl (F0.be hC rfl (C0.rows_map [x1.1]).symm (F0.ap hC rfl (rs:=C0.rows (o2_Decls++[x1.1])) (C0.app o2_Decls [x1.1]) (C0.sz o2_Decls) (C0.sz [x1.1]) (Q1 (C0.len o2_Decls) (C0.len [x1.1]) c6) (q' rfl (F0.s hC rfl (n' (lq (ih0 _ _ _ hh) rfl)))))))
theorem Vs {o0 o2_Decls res}(hh:L5 o0 o2_Decls=some res):Jk o0 o2_Decls res:=(Ar) _ _ _ hh
def R6 (parserParser:D0):Option (Pn (O0×D0)):=
 L5 parserParser []
theorem Ll {parserParser res}(hh:R6 parserParser=some res):C2 C 46 [.ref 0 0] [.row (D0.cells parserParser) 99] (F4 res (fun rr=>[.row (D0.cells rr.2) 99]) (fun rr=>.agg (O0.cells rr.1))) (D4 res B3 [.dead]):=by
 unfold R6 at hh
 exact C2.intro hC Tryz.func46 rfl rfl rfl (s' rfl rfl (F0.nf hC rfl (n' (s' rfl rfl (F0.nf hC rfl (F0.tokC 2 0 128 17 rfl rfl rfl rfl rfl (n' (S' (bk' (fq (Vs hh) rfl))))))))))
def Gm (parserParser:D0)(apiProgram:O0):Option (Pn (D0×O0)):=
 R6 parserParser>>=fun x1=>match x1 with
 | .pn nn=>
 some (.pn nn)
 | .ok x1=>
 some (.ok (x1.2,x1.1))
theorem Fu {parserParser apiProgram res}(hh:Gm parserParser apiProgram=some res):C2 C 45 [.ref 0 0,.ref 1 0] [.row (D0.cells parserParser) 99,.row [.full (C0.rows apiProgram.Decls),.full (B0.rows apiProgram.Body)] 49] (F4 res (fun rr=>[.row (D0.cells rr.1) 99,.row (O0.cells rr.2) 49]) (fun rr=>.tup [])) (D4 res B3 [.dead,.row [.full (C0.rows apiProgram.Decls),.full (B0.rows apiProgram.Body)] 49]):=by
 unfold Gm at hh
 refine C2.intro hC Tryz.func45 rfl rfl rfl (P' 1 rfl ?_)
 rcases bp' hh with ⟨nn,hx1,⟨⟩⟩ | ⟨x1,hx1,hh⟩
 ·exact gr [0] (Ll hx1) rfl (fun hi=>peW ⟨trivial,⟨rfl,.refl _,rfl⟩,trivial⟩ rfl hi)
 cases hh
 exact gq [0] ((Ll hx1).ok) rfl (F0.s hC rfl (n' (rn' rfl rfl rfl)))
def Im (text:Str)(apiProgram:O0):Option (Int×Int×O0):=
 Co text>>=fun x1=>
 if (x1.2.2 != 0)=true then
  some (x1.2.1,x1.2.2,apiProgram)
 else
  Gm (D0.mk x1.1 0 ((text).length:Int)) apiProgram>>=fun x2=>match x2 with
  | .pn nn=>
  some (nn,6,apiProgram)
  | .ok x2=>
  if (decide (x2.1.next < ((x2.1.tokens).length:Int)))=true then
   Y6 x2.1>>=fun x3=>match x3 with
   | .pn nn=>
   some (nn,6,x2.2)
   | .ok x3=>
   some (0,0,x2.2)
  else
   some (0,0,x2.2)
theorem D18 {text apiProgram res}(hh:Im text apiProgram=some res):P0 C 28 [.d (.str text),.clo 45 [.ref 0 0]] [.row [.full (C0.rows apiProgram.Decls),.full (B0.rows apiProgram.Body)] 49] (Ret [.row (O0.cells res.2.2) 49] (.tup [.d (.int .i64 res.1),.d (.int .i64 res.2.1)])):=by
 unfold Im at hh
 obtain ⟨x1,hx1,hh⟩:=bs' hh
 refine P0.introD hC Tryz.func28 rfl rfl rfl (s' rfl rfl (F0.n hC rfl (F0.n hC rfl (n' (p' 1 rfl (cq (Q15 hx1) rfl (o' 5 rfl (F0.s hC rfl (F0.s hC rfl (n' (S' (t' rfl (ci' rfl hh (fun hh=>?_) (fun hh=>?_))))))))))))))
 ·refine S' (AEx.drawL hC 3 [2] [] [[.row [.full (C0.rows apiProgram.Decls),.full (B0.rows apiProgram.Body)] 49,.row [.d (.int .i64 x1.2.1)] 3,.row [.d (.int .i64 x1.2.2)] 27],[.row [.full (C0.rows apiProgram.Decls),.full (B0.rows apiProgram.Body)] 49,.row [.d (.int .i64 x1.2.1)] 3,.row [.d (.int .i64 x1.2.2)] 27]] rfl rfl rfl rfl rfl rfl rfl rfl rfl rfl (AS.q hC rfl rfl rfl rfl ?_))
  refine AS.q hC rfl rfl rfl rfl (AS.s hC rfl rfl rfl rfl rfl rfl rfl (AS.nil (F0.s hC rfl (n' (re' ?_)))))
  obtain rfl:=oi' hh
  exact ⟨_,_,[.row (O0.cells apiProgram) 49],rfl,.rfl,⟨⟨rfl,⟨.full,.full,trivial⟩,rfl⟩,trivial⟩,rfl,rfl,rfl,rfl⟩
 refine sk' (AEx.dfr hC F1b R1e rfl rfl rfl rfl rfl rfl fun _=>(p' 4 rfl (F0.n hC rfl (e' rfl (p' 2 rfl ?_)))))
 rcases bp' hh with ⟨nn,hx2,hh⟩ | ⟨x2,hx2,hh⟩
 ·obtain rfl:=oi' hh
  exact gr [3,0] (Fu hx2) rfl (fun hi=>dfk hi rfl rfl rfl (⟨_,_,[.row (O0.cells apiProgram) 49],rfl,.rfl,⟨⟨rfl,⟨.full,.full,trivial⟩,rfl⟩,trivial⟩,rfl,rfl,rfl,rfl⟩))
 refine gq [3,0] ((Fu hx2).ok) rfl (n' (S' (S' (AEx.draw hC 10 rfl rfl rfl (O' 8 rfl (AQ.qe hC rfl trivial (K0.lenA _) (E' rfl (n' (ci' rfl hh (fun hh=>?_) (fun hh=>?_))))))))))
 ·refine P' 1 rfl ?_
  rcases bp' hh with ⟨nn,hx3,hh⟩ | ⟨x3,hx3,hh⟩
  ·cases hh
   exact gr [3] (Q5 hx3) rfl (fun hi=>dfk hi rfl rfl rfl (rq rfl))
  cases hh
  exact gq [3] ((Q5 hx3).ok) rfl (n' (s' rfl rfl (F0.s hC rfl (F0.s hC rfl (n' (re' (rq rfl)))))))
 cases hh
 exact sk' (s' rfl rfl (F0.s hC rfl (F0.s hC rfl (n' (re' (rq rfl))))))
def Bl (k:Int):Option (Bool×Bool):=
 some ((bif (decide (k≥0)) then (decide (k≤6)) else false),(bif (k == 5) then true else (k == 6)))
theorem F16 {k res}(hh:Bl k=some res):P0 C 175 [.d (.int .i64 k)] [] (Ret [] (.tup [.d (.bool res.1),.d (.bool res.2)])):=by
 unfold Bl at hh
 cases hh
 exact P0.intro hC Tryz.func175 rfl rfl rfl (t' rfl (sg' 14 rfl (G' 4 rfl (a1' rfl (pa' rfl (G' 4 rfl (a1' rfl (po' rfl (G' 2 rfl (an' (n' (re' (rq rfl)))))))))))))
def D3 (s1:List Str)(s2:List Str)(v13:Int):Option Bool:=
 if (decide (v13 < ((s1).length:Int)))=true then
  idx s1 v13>>=fun x1=>
  idx s2 v13>>=fun x2=>
  if (!(x1 == x2))=true then
   some false
  else
   D3 s1 s2 (IntKind.i64.wrap (v13+1))
 else
  some true
 partial_fixpoint
abbrev Bh (s1:List Str)(s2:List Str)(v13:Int)(res:Bool):Prop:=LM C 26 0 Tryz.f196 [1,1,0,1,4] [(0,.d (.sl (estr.rows s1))),(1,.d (.sl (estr.rows s2))),(12,.d (.int .i64 ((s1).length:Int))),(13,.d (.int .i64 v13))] [] (Ret [] (.d (.bool res)))
theorem Wm (s1:List Str)(s2:List Str):(∀ v13 res,D3 s1 s2 v13=some res→Bh s1 s2 v13 res):=by
 refine D3.partial_correctness s1 s2 _ ?_
 ·intro g0 ih0 v13 res hh
  refine X0.unroll (t' rfl (S' (ci' rfl hh (fun hh=>?_) (fun hh=>?_))))
  ·obtain ⟨x1,hx1,hh⟩:=bs' hh
   obtain ⟨x2,hx2,hh⟩:=bs' hh
   refine sk' (S' (bk' (t' rfl (S' (AEx.draw hC 9 rfl rfl rfl (O' 2 rfl (AQ.i hC rfl (Z0 hx1) (estr.idx hx1) rfl (O' 3 rfl (AQ.i hC rfl (Z0 hx2) (estr.idx hx2) rfl (E' rfl (n' (ci' rfl hh (fun hh=>?_) (fun hh=>?_)))))))))))))
   ·cases hh
    exact t' rfl (re' (rq rfl))
   exact sk' (T' rfl (lq (ih0 _ _ hh) rfl))
  cases hh
  exact ex' (t' rfl (re' (rq rfl)))
theorem Tn {s1 s2 v13 res}(hh:D3 s1 s2 v13=some res):Bh s1 s2 v13 res:=(Wm s1 s2) _ _ hh
def Q7 (s1:List Str)(s2:List Str):Option Bool:=
 if (((s1).length:Int) != ((s2).length:Int))=true then
  some false
 else
  D3 s1 s2 0
theorem Bq {s1 s2 res}(hh:Q7 s1 s2=some res):P0 C 196 [.d (.sl (estr.rows s1)),.d (.sl (estr.rows s2))] [] (Ret [] (.d (.bool res))):=by
 unfold Q7 at hh
 refine P0.intro hC Tryz.func196 rfl rfl rfl (t' rfl (S' (p' 1 rfl (qe' rfl trivial (estr.lenA _) (q' rfl (qe' rfl trivial (estr.lenA _) (e' rfl (ci' rfl hh (fun hh=>?_) (fun hh=>?_)))))))))
 ·cases hh
  exact t' rfl (re' (rq rfl))
 exact sk' (S' (p' 1 rfl (qe' rfl trivial (estr.lenA _) (e' rfl (bk' (fq (Tn hh) rfl))))))
mutual
def K9 (a:E0)(b:E0):Option Bool:=
 (if (bif (bif (bif (bif (a.Kind == b.Kind) then (a.Low == b.Low) else false) then (a.High == b.High) else false) then (a.Size == b.Size) else false) then (a.Name == b.Name) else false)=true then Q7 a.Names b.Names else some default)>>=fun x1=>
 (if (bif (bif (bif (bif (bif (a.Kind == b.Kind) then (a.Low == b.Low) else false) then (a.High == b.High) else false) then (a.Size == b.Size) else false) then (a.Name == b.Name) else false) then x1 else false)=true then F3 a.Of b.Of else some default)>>=fun x2=>
 some (bif (bif (bif (bif (bif (bif (a.Kind == b.Kind) then (a.Low == b.Low) else false) then (a.High == b.High) else false) then (a.Size == b.Size) else false) then (a.Name == b.Name) else false) then x1 else false) then x2 else false)
 partial_fixpoint
def F3 (s1:List E0)(s2:List E0):Option Bool:=
 if (((s1).length:Int) != ((s2).length:Int))=true then
  some false
 else
  X1 s1 s2 0
 partial_fixpoint
def X1 (s1:List E0)(s2:List E0)(v17:Int):Option Bool:=
 if (decide (v17 < ((s1).length:Int)))=true then
  idx s1 v17>>=fun x1=>
  idx s2 v17>>=fun x2=>
  K9 x1 x2>>=fun x3=>
  if (!x3)=true then
   some false
  else
   X1 s1 s2 (IntKind.i64.wrap (v17+1))
 else
  some true
 partial_fixpoint
end
abbrev Ws (a:E0)(b:E0)(res:Bool):Prop:=P0 C 176 [.agg (E0.cells a),.agg (E0.cells b)] [] (Ret [] (.d (.bool res)))
abbrev Ue (s1:List E0)(s2:List E0)(res:Bool):Prop:=P0 C 197 [.d (.sl (E0.rows s1)),.d (.sl (E0.rows s2)),.clo 176 []] [] (Ret [] (.d (.bool res)))
abbrev Ud (s1:List E0)(s2:List E0)(v17:Int)(res:Bool):Prop:=LM C 32 0 Tryz.f197 [1,1,0,1,4] [(1,.d (.sl (E0.rows s2))),(2,.clo 176 []),(15,.d (.sl (E0.rows s1))),(16,.d (.int .i64 ((s1).length:Int))),(17,.d (.int .i64 v17))] [] (Ret [] (.d (.bool res)))
theorem C12:(∀ a b res,K9 a b=some res→Ws a b res)∧(∀ s1 s2 res,F3 s1 s2=some res→Ue s1 s2 res)∧(∀ s1 s2 v17 res,X1 s1 s2 v17=some res→Ud s1 s2 v17 res):=by
 refine K9.mutual_partial_correctness _ _ _ ?_ ?_ ?_
 ·intro g1 ih1 a b res hh
  obtain ⟨x1,hx1,hh⟩:=bs' hh
  obtain ⟨x2,hx2,hh⟩:=bs' hh
  cases hh
  refine P0.intro hC Tryz.func176 rfl rfl rfl (s' rfl rfl (F0.n hC rfl (F0.n hC rfl (e' rfl (sg' 48 rfl (G' 7 rfl (a1' rfl (a0' rfl (a1' rfl (a2' rfl (pa' rfl (G' 2 rfl (a1' rfl ?_)))))))))))))
  refine a0' rfl (a1' rfl (a2' rfl (pa' rfl (G' 2 rfl (a1' rfl (a0' rfl (a1' rfl (a2' rfl (pa' rfl (G' 2 rfl (a1' rfl (a0' rfl (a1' rfl ?_)))))))))))))
  refine a2' rfl (pa' rfl (G' 2 rfl (a1' rfl (a0' rfl (a1' rfl (AG.c rfl rfl (fun hg=>⟨hg,hg,trivial⟩) (fun hw=>Bq (V1 hw hx1)) (pa' rfl (G' 2 rfl (a1' rfl (a0' rfl (a1' rfl (AG.c rfl rfl (fun hg=>⟨hg,hg,trivial⟩) (fun hw=>ih1 _ _ _ (V1 hw hx2)) (pa' rfl ?_)))))))))))))
  exact a0' rfl (an' (n' (re' (rq rfl))))
 ·intro g2 ih2 s1 s2 res hh
  refine P0.intro hC Tryz.func197 rfl rfl rfl (t' rfl (S' (p' 1 rfl (qe' rfl trivial (E0.lenA _) (q' rfl (qe' rfl trivial (E0.lenA _) (e' rfl (ci' rfl hh (fun hh=>?_) (fun hh=>?_)))))))))
  ·cases hh
   exact t' rfl (re' (rq rfl))
  exact sk' (S' (p' 1 rfl (qe' rfl trivial (E0.lenA _) (e' rfl (bk' (fq (ih2 _ _ _ _ hh) rfl))))))
 ·intro g0 g2 ih0 ih2 s1 s2 v17 res hh
  refine X0.unroll (t' rfl (S' (ci' rfl hh (fun hh=>?_) (fun hh=>?_))))
  ·obtain ⟨x1,hx1,hh⟩:=bs' hh
   obtain ⟨x2,hx2,hh⟩:=bs' hh
   obtain ⟨x3,hx3,hh⟩:=bs' hh
   refine sk' (S' (bk' (p' 1 rfl (i' rfl (Z0 hx1) (E0.idx hx1) rfl (q' rfl (F0.nf hC rfl (q' rfl (F0.s hC rfl (n' (p' 2 rfl (i' rfl (Z0 hx2) (E0.idx hx2) rfl (q' rfl (F0.nf hC rfl ?_)))))))))))))
   refine F0.s hC rfl (n' (p' 3 rfl (cq (ih0 _ _ _ hx3) rfl (e' rfl (ci' rfl hh (fun hh=>?_) (fun hh=>?_))))))
   ·cases hh
    exact t' rfl (re' (rq rfl))
   exact sk' (T' rfl (lq (ih2 _ _ _ _ hh) rfl))
  cases hh
  exact ex' (t' rfl (re' (rq rfl)))
theorem N14 {a b res}(hh:K9 a b=some res):Ws a b res:=(C12).1 _ _ _ hh
mutual
def J7 (a:A0)(b:A0):Option Bool:=
 (if (bif (bif (a.Op == b.Op) then (a.NV == b.NV) else false) then (a.Name == b.Name) else false)=true then H3 a.Kids b.Kids else some default)>>=fun x1=>
 some (bif (bif (bif (a.Op == b.Op) then (a.NV == b.NV) else false) then (a.Name == b.Name) else false) then x1 else false)
 partial_fixpoint
def H3 (s1:List A0)(s2:List A0):Option Bool:=
 if (((s1).length:Int) != ((s2).length:Int))=true then
  some false
 else
  Y1 s1 s2 0
 partial_fixpoint
def Y1 (s1:List A0)(s2:List A0)(v17:Int):Option Bool:=
 if (decide (v17 < ((s1).length:Int)))=true then
  idx s1 v17>>=fun x1=>
  idx s2 v17>>=fun x2=>
  J7 x1 x2>>=fun x3=>
  if (!x3)=true then
   some false
  else
   Y1 s1 s2 (IntKind.i64.wrap (v17+1))
 else
  some true
 partial_fixpoint
end
abbrev Xs (a:A0)(b:A0)(res:Bool):Prop:=P0 C 198 [.agg (A0.cells a),.agg (A0.cells b)] [] (Ret [] (.d (.bool res)))
abbrev Ve (s1:List A0)(s2:List A0)(res:Bool):Prop:=P0 C 211 [.d (.sl (A0.rows s1)),.d (.sl (A0.rows s2)),.clo 198 []] [] (Ret [] (.d (.bool res)))
abbrev Vd (s1:List A0)(s2:List A0)(v17:Int)(res:Bool):Prop:=LM C 32 0 Tryz.f211 [1,1,0,1,4] [(1,.d (.sl (A0.rows s2))),(2,.clo 198 []),(15,.d (.sl (A0.rows s1))),(16,.d (.int .i64 ((s1).length:Int))),(17,.d (.int .i64 v17))] [] (Ret [] (.d (.bool res)))
theorem D12:(∀ a b res,J7 a b=some res→Xs a b res)∧(∀ s1 s2 res,H3 s1 s2=some res→Ve s1 s2 res)∧(∀ s1 s2 v17 res,Y1 s1 s2 v17=some res→Vd s1 s2 v17 res):=by
 refine J7.mutual_partial_correctness _ _ _ ?_ ?_ ?_
 ·intro g1 ih1 a b res hh
  obtain ⟨x1,hx1,hh⟩:=bs' hh
  cases hh
  refine P0.intro hC Tryz.func198 rfl rfl rfl (s' rfl rfl (F0.n hC rfl (F0.n hC rfl (e' rfl (sg' 27 rfl (G' 7 rfl (a1' rfl (a0' rfl (a1' rfl (a2' rfl (pa' rfl (G' 2 rfl (a1' rfl ?_)))))))))))))
  exact a0' rfl (a1' rfl (a2' rfl (pa' rfl (G' 2 rfl (a1' rfl (a0' rfl (a1' rfl (AG.c rfl rfl (fun hg=>⟨hg,hg,trivial⟩) (fun hw=>ih1 _ _ _ (V1 hw hx1)) (pa' rfl (a0' rfl (an' (n' (re' (rq rfl))))))))))))))
 ·intro g2 ih2 s1 s2 res hh
  refine P0.intro hC Tryz.func211 rfl rfl rfl (t' rfl (S' (p' 1 rfl (qe' rfl trivial (A0.lenA _) (q' rfl (qe' rfl trivial (A0.lenA _) (e' rfl (ci' rfl hh (fun hh=>?_) (fun hh=>?_)))))))))
  ·cases hh
   exact t' rfl (re' (rq rfl))
  exact sk' (S' (p' 1 rfl (qe' rfl trivial (A0.lenA _) (e' rfl (bk' (fq (ih2 _ _ _ _ hh) rfl))))))
 ·intro g0 g2 ih0 ih2 s1 s2 v17 res hh
  refine X0.unroll (t' rfl (S' (ci' rfl hh (fun hh=>?_) (fun hh=>?_))))
  ·obtain ⟨x1,hx1,hh⟩:=bs' hh
   obtain ⟨x2,hx2,hh⟩:=bs' hh
   obtain ⟨x3,hx3,hh⟩:=bs' hh
   refine sk' (S' (bk' (p' 1 rfl (i' rfl (Z0 hx1) (A0.idx hx1) rfl (q' rfl (F0.nf hC rfl (q' rfl (F0.s hC rfl (n' (p' 2 rfl (i' rfl (Z0 hx2) (A0.idx hx2) rfl (q' rfl (F0.nf hC rfl ?_)))))))))))))
   refine F0.s hC rfl (n' (p' 3 rfl (cq (ih0 _ _ _ hx3) rfl (e' rfl (ci' rfl hh (fun hh=>?_) (fun hh=>?_))))))
   ·cases hh
    exact t' rfl (re' (rq rfl))
   exact sk' (T' rfl (lq (ih2 _ _ _ _ hh) rfl))
  cases hh
  exact ex' (t' rfl (re' (rq rfl)))
theorem O14 {a b res}(hh:J7 a b=some res):Xs a b res:=(D12).1 _ _ _ hh
def E4 (e:A0)(used:Bool)(syntaxReport:I0):Option I0:=
 (if (!used)=true then J7 e (A0.mk 0 0 [] []) else some default)>>=fun x1=>
 if (bif (!used) then x1 else false)=true then
  some syntaxReport
 else
  D1 used syntaxReport>>=fun x2=>
  S3 e 1 x2>>=fun x3=>
  some x3
theorem Ag {e used syntaxReport res}(hh:E4 e used syntaxReport=some res):P0 C 177 [.ref 0 0,.agg (A0.cells e),.d (.bool used)] [.row (I0.cells syntaxReport) 103] (Ret [.row (I0.cells res) 103] (.tup [])):=by
 unfold E4 at hh
 obtain ⟨x1,hx1,hh⟩:=bs' hh
 refine P0.intro hC Tryz.func177 rfl rfl rfl (s' rfl rfl (F0.n hC rfl (n' (S' (sg' 7 rfl (G' 5 rfl (AG.c rfl rfl (fun hg=>⟨hg,hg,trivial⟩) (fun hw=>O14 (V1 hw hx1)) (pa' rfl (an' (n' (ci' rfl hh (fun hh=>?_) (fun hh=>?_))))))))))))
 ·cases hh
  exact re' (rq rfl)
 obtain ⟨x2,hx2,hh⟩:=bs' hh
 obtain ⟨x3,hx3,hh⟩:=bs' hh
 cases hh
 exact sk' (p' 2 rfl (gq [0] (F1 hx2) rfl (n' (P' 2 rfl (gq [0] (Oi hx3) rfl (n' (rn' rfl rfl rfl)))))))
def Qg (v:Int):Option (U2×Bool):=
 if (v == 0)=true then
  some ((U2.mk true true false false false false false false false),true)
 else
  if (v == 1)=true then
   some ((U2.mk true false true true false false false false false),true)
  else
   if (v == 2)=true then
    some ((U2.mk true false true false false false false false false),true)
   else
    if (v == 3)=true then
     some ((U2.mk false true false false false false false false false),true)
    else
     if (v == 4)=true then
      some ((U2.mk false false false false true false false false false),true)
     else
      if (v == 5)=true then
       some ((U2.mk false true false false false false false true true),true)
      else
       if (v == 6)=true then
        some ((U2.mk false true false false true false false true false),true)
       else
        if (v == 7)=true then
         some ((U2.mk false false true false false true false true false),true)
        else
         if (v == 8)=true then
          some ((U2.mk false false false false false false true false false),true)
         else
          some ((U2.mk false false false false false false false false false),false)
theorem P14 {v res}(hh:Qg v=some res):P0 C 178 [.d (.int .i64 v)] [] (Ret [] (.tup [.agg (U2.cells res.1),.d (.bool res.2)])):=by
 unfold Qg at hh
 refine P0.intro hC Tryz.func178 rfl rfl rfl (s' rfl rfl (F0.n hC rfl (e' rfl (S' (t' rfl (bk' (t' rfl (ci' rfl hh (fun hh=>?_) (fun hh=>?_)))))))))
 ·cases hh
  exact p' 1 rfl (F0.s hC rfl (e' rfl (re' (rq rfl))))
 refine t' rfl (ci' rfl hh (fun hh=>?_) (fun hh=>?_))
 ·cases hh
  exact p' 1 rfl (F0.s hC rfl (e' rfl (re' (rq rfl))))
 refine t' rfl (ci' rfl hh (fun hh=>?_) (fun hh=>?_))
 ·cases hh
  exact p' 1 rfl (F0.s hC rfl (e' rfl (re' (rq rfl))))
 refine t' rfl (ci' rfl hh (fun hh=>?_) (fun hh=>?_))
 ·cases hh
  exact p' 1 rfl (F0.s hC rfl (e' rfl (re' (rq rfl))))
 refine t' rfl (ci' rfl hh (fun hh=>?_) (fun hh=>?_))
 ·cases hh
  exact p' 1 rfl (F0.s hC rfl (e' rfl (re' (rq rfl))))
 refine t' rfl (ci' rfl hh (fun hh=>?_) (fun hh=>?_))
 ·cases hh
  exact p' 1 rfl (F0.s hC rfl (e' rfl (re' (rq rfl))))
 refine t' rfl (ci' rfl hh (fun hh=>?_) (fun hh=>?_))
 ·cases hh
  exact p' 1 rfl (F0.s hC rfl (e' rfl (re' (rq rfl))))
 refine t' rfl (ci' rfl hh (fun hh=>?_) (fun hh=>?_))
 ·cases hh
  exact p' 1 rfl (F0.s hC rfl (e' rfl (re' (rq rfl))))
 refine t' rfl (ci' rfl hh (fun hh=>?_) (fun hh=>?_))
 ·cases hh
  exact p' 1 rfl (F0.s hC rfl (e' rfl (re' (rq rfl))))
 cases hh
 exact sk' (p' 1 rfl (F0.s hC rfl (e' rfl (re' (rq rfl)))))
def H4 (s:B0)(o0:I0)(last:Int)(v58:Int):Option I0:=
 if (decide (v58 < ((s.Numbers).length:Int)))=true then
  idx s.Numbers v58>>=fun x10=>
  B4 x10 0 1048576>>=fun x11=>
  O2 (bif x11 then (decide (x10 > last)) else false) o0>>=fun x12=>
  H4 s x12 x10 (IntKind.i64.wrap (v58+1))
 else
  some o0
 partial_fixpoint
abbrev Kk (s:B0)(o0:I0)(last:Int)(v58:Int)(res:I0):Prop:=LM C 73 1 Tryz.f179 [1,1,4,1,3,1,3,1,3,1,2,1,1,1,4] [(0,.ref 0 0),(5,.d (.int .i64 last)),(56,.d (.sl (ei64.rows s.Numbers))),(57,.d (.int .i64 ((s.Numbers).length:Int))),(58,.d (.int .i64 v58))] [.row (I0.cells o0) 103] (Ret [.row (I0.cells res) 103] (.tup []))
theorem Br (s:B0):(∀ o0 last v58 res,H4 s o0 last v58=some res→Kk s o0 last v58 res):=by
 refine H4.partial_correctness s _ ?_
 ·intro g0 ih0 o0 last v58 res hh
  refine X0.unroll (t' rfl (S' (ci' rfl hh (fun hh=>?_) (fun hh=>?_))))
  ·obtain ⟨x10,hx10,hh⟩:=bs' hh
   obtain ⟨x11,hx11,hh⟩:=bs' hh
   obtain ⟨x12,hx12,hh⟩:=bs' hh
   refine sk' (S' (bk' (s' rfl rfl (i' rfl (Z0 hx10) (ei64.idx hx10) rfl (e' rfl (sg' 8 rfl (G' 2 rfl (AG.c rfl rfl (fun _=>trivial) (fun _=>O4 hx11) (G' 3 rfl (a2' rfl (pa' rfl (an' (gq [0] (K3 hx12) rfl ?_)))))))))))))
   exact n' (T' rfl (T' rfl (lq (ih0 _ _ _ _ hh) rfl)))
  cases hh
  exact ex' (rn' rfl rfl rfl)
theorem Ys {s o0 last v58 res}(hh:H4 s o0 last v58=some res):Kk s o0 last v58 res:=(Br s) _ _ _ _ hh
def V8 (s:B0)(syntaxReport:I0):Option I0:=
 if (s.Verb == 4)=true then
  B4 s.NV 0 1048576>>=fun x1=>
  O2 x1 syntaxReport>>=fun x2=>
  some x2
 else
  if (s.Verb == 6)=true then
   B4 s.NV 0 4096>>=fun x3=>
   O2 x3 syntaxReport>>=fun x4=>
   some x4
  else
   if (s.Verb == 7)=true then
    B4 s.Low (-1048576) 1048576>>=fun x5=>
    (if x5=true then B4 s.High s.Low 1048576 else some default)>>=fun x6=>
    O2 (bif (bif x5 then x6 else false) then (decide ((IntKind.i64.wrap (s.High - s.Low)) < 4096)) else false) syntaxReport>>=fun x7=>
    some x7
   else
    if (s.Verb == 8)=true then
     B4 ((s.Numbers).length:Int) 1 32>>=fun x8=>
     O2 x8 syntaxReport>>=fun x9=>
     H4 s x9 (-1) 0
    else
     some syntaxReport
theorem Fw {s syntaxReport res}(hh:V8 s syntaxReport=some res):P0 C 179 [.ref 0 0,.agg (B0.cells s)] [.row (I0.cells syntaxReport) 103] (Ret [.row (I0.cells res) 103] (.tup [])):=by
 unfold V8 at hh
 refine P0.intro hC Tryz.func179 rfl rfl rfl (s' rfl rfl (F0.n hC rfl (n' (t' rfl (bk' (t' rfl (ci' rfl hh (fun hh=>?_) (fun hh=>?_))))))))
 ·obtain ⟨x1,hx1,hh⟩:=bs' hh
  obtain ⟨x2,hx2,hh⟩:=bs' hh
  cases hh
  exact P' 3 rfl (cq (O4 hx1) rfl (gq [0] (K3 hx2) rfl (n' (rn' rfl rfl rfl))))
 refine t' rfl (ci' rfl hh (fun hh=>?_) (fun hh=>?_))
 ·obtain ⟨x3,hx3,hh⟩:=bs' hh
  obtain ⟨x4,hx4,hh⟩:=bs' hh
  cases hh
  exact P' 3 rfl (cq (O4 hx3) rfl (gq [0] (K3 hx4) rfl (n' (rn' rfl rfl rfl))))
 refine t' rfl (ci' rfl hh (fun hh=>?_) (fun hh=>?_))
 ·obtain ⟨x5,hx5,hh⟩:=bs' hh
  obtain ⟨x6,hx6,hh⟩:=bs' hh
  obtain ⟨x7,hx7,hh⟩:=bs' hh
  cases hh
  refine sg' 11 rfl (G' 2 rfl (AG.c rfl rfl (fun _=>trivial) (fun _=>O4 hx5) (G' 2 rfl (a1' rfl (a0' rfl (a1' rfl (AG.c rfl rfl (fun hg=>⟨hg,hg,trivial⟩) (fun hw=>O4 (V1 hw hx6)) (pa' rfl (a0' rfl (an' (n' (AEx.regionG 10 rfl (G' 4 rfl ?_)))))))))))))
  exact a1' rfl (a0' rfl (a1' rfl (a2' rfl (a1' rfl (pa' rfl (an' (gq [0] (K3 hx7) rfl (n' (rn' rfl rfl rfl)))))))))
 refine t' rfl (ci' rfl hh (fun hh=>?_) (fun hh=>?_))
 ·obtain ⟨x8,hx8,hh⟩:=bs' hh
  obtain ⟨x9,hx9,hh⟩:=bs' hh
  exact p' 3 rfl (qe' rfl trivial (ei64.lenA _) (cq (O4 hx8) rfl (gq [0] (K3 hx9) rfl (n' (t' rfl (p' 2 rfl (qe' rfl trivial (ei64.lenA _) (e' rfl (bk' (fq (Ys hh) rfl))))))))))
 cases hh
 exact sk' (rn' rfl rfl rfl)
mutual
def U3 (l:List B0)(nesting:Int)(syntaxReport:I0):Option I0:=
 J6 l nesting syntaxReport 0
 partial_fixpoint
def J6 (l:List B0)(nesting:Int)(o03:I0)(v14:Int):Option I0:=
 if (decide (v14 < ((l).length:Int)))=true then
  idx l v14>>=fun x1=>
  C9 nesting (I0.mk (IntKind.i64.wrap (o03.nodes+1)) o03.depth o03.badForm o03.badName o03.badNumber)>>=fun x2=>
  Qg x1.Verb>>=fun x3=>
  D1 x3.2 x2>>=fun x4=>
  E4 x1.Place x3.1.place x4>>=fun x5=>
  if x3.1.place=true then
   Ni x1.Place>>=fun x6=>
   D1 x6 x5>>=fun x7=>
   V7 l nesting x7 x1 x3 v14
  else
   V7 l nesting x5 x1 x3 v14
 else
  some o03
 partial_fixpoint
def V7 (l:List B0)(nesting:Int)(o0:I0)(x1:B0)(x3:U2×Bool)(v141:Int):Option I0:=
 E4 x1.Value x3.1.value o0>>=fun x8=>
 D1 (bif x3.1.name then true else (x1.Name == [])) x8>>=fun x9=>
 if x3.1.name=true then
  A5 x1.Name x9>>=fun x10=>
  W7 l nesting x10 x1 x3 v141
 else
  W7 l nesting x9 x1 x3 v141
 partial_fixpoint
def W7 (l:List B0)(nesting:Int)(o01:I0)(x1:B0)(x3:U2×Bool)(v142:Int):Option I0:=
 D1 (bif x3.1.args then true else (((x1.Args).length:Int) == 0)) o01>>=fun x11=>
 Gb l nesting x11 x1 x3 v142 0
 partial_fixpoint
def Gb (l:List B0)(nesting:Int)(o02:I0)(x1:B0)(x3:U2×Bool)(v143:Int)(v84:Int):Option I0:=
 if (decide (v84 < ((x1.Args).length:Int)))=true then
  idx x1.Args v84>>=fun x12=>
  S3 x12 1 o02>>=fun x13=>
  Gb l nesting x13 x1 x3 v143 (IntKind.i64.wrap (v84+1))
 else
  D1 (bif x3.1.n then true else (x1.NV == 0)) o02>>=fun x14=>
  D1 (bif x3.1.bounds then true else (bif (x1.Low == 0) then (x1.High == 0) else false)) x14>>=fun x15=>
  D1 (bif x3.1.numbers then true else (((x1.Numbers).length:Int) == 0)) x15>>=fun x16=>
  D1 (bif x3.1.thenV then true else (((x1.Then).length:Int) == 0)) x16>>=fun x17=>
  D1 (bif x3.1.other then true else (((x1.Else).length:Int) == 0)) x17>>=fun x18=>
  V8 x1 x18>>=fun x19=>
  U3 x1.Then (IntKind.i64.wrap (nesting+1)) x19>>=fun x20=>
  U3 x1.Else (IntKind.i64.wrap (nesting+1)) x20>>=fun x21=>
  J6 l nesting x21 (IntKind.i64.wrap (v143+1))
 partial_fixpoint
end
abbrev Ho (l:List B0)(nesting:Int)(syntaxReport:I0)(res:I0):Prop:=P0 C 144 [.ref 0 0,.d (.sl (B0.rows l)),.d (.int .i64 nesting)] [.row (I0.cells syntaxReport) 103] (Ret [.row (I0.cells res) 103] (.tup []))
abbrev Gw (l:List B0)(nesting:Int)(o03:I0)(v14:Int)(res:I0):Prop:=LM C 161 1 Tryz.f144 [1,4] [(0,.ref 0 0),(2,.d (.int .i64 nesting)),(12,.d (.sl (B0.rows l))),(13,.d (.int .i64 ((l).length:Int))),(14,.d (.int .i64 v14))] [.row (I0.cells o03) 103] (Ret [.row (I0.cells res) 103] (.tup []))
abbrev Hw (l:List B0)(nesting:Int)(o0:I0)(x1:B0)(x3:U2×Bool)(v141:Int)(res:I0):Prop:=JM C 161 1 Tryz.f144 [1,4,5,1,1,0,4,1,1,1,1,1,1,1] [(0,.ref 0 0),(2,.d (.int .i64 nesting)),(7,.ref 1 0),(8,.ref 2 0),(12,.d (.sl (B0.rows l))),(13,.d (.int .i64 ((l).length:Int))),(14,.d (.int .i64 v141))] [.row (I0.cells o0) 103,.row (B0.cells x1) 144,.row (U2.cells x3.1) 186] (Ret [.row (I0.cells res) 103] (.tup []))
abbrev Iw (l:List B0)(nesting:Int)(o01:I0)(x1:B0)(x3:U2×Bool)(v142:Int)(res:I0):Prop:=JM C 161 1 Tryz.f144 [1,4,5,1,1,0,4,1,1,1,1,1,1,1,1,1,1] [(0,.ref 0 0),(2,.d (.int .i64 nesting)),(7,.ref 1 0),(8,.ref 2 0),(12,.d (.sl (B0.rows l))),(13,.d (.int .i64 ((l).length:Int))),(14,.d (.int .i64 v142))] [.row (I0.cells o01) 103,.row (B0.cells x1) 144,.row (U2.cells x3.1) 186] (Ret [.row (I0.cells res) 103] (.tup []))
abbrev Jw (l:List B0)(nesting:Int)(o02:I0)(x1:B0)(x3:U2×Bool)(v143:Int)(v84:Int)(res:I0):Prop:=LM C 161 1 Tryz.f144 [1,4,5,1,1,0,4,1,1,1,1,1,1,1,1,1,1,1,0,1,4] [(0,.ref 0 0),(2,.d (.int .i64 nesting)),(7,.ref 1 0),(8,.ref 2 0),(12,.d (.sl (B0.rows l))),(13,.d (.int .i64 ((l).length:Int))),(14,.d (.int .i64 v143)),(82,.d (.sl (A0.rows x1.Args))),(83,.d (.int .i64 ((x1.Args).length:Int))),(84,.d (.int .i64 v84))] [.row (I0.cells o02) 103,.row (B0.cells x1) 144,.row (U2.cells x3.1) 186] (Ret [.row (I0.cells res) 103] (.tup []))
theorem Ox:(∀ l nesting syntaxReport res,U3 l nesting syntaxReport=some res→Ho l nesting syntaxReport res)∧(∀ l nesting o03 v14 res,J6 l nesting o03 v14=some res→Gw l nesting o03 v14 res)∧(∀ l nesting o0 x1 x3 v141 res,V7 l nesting o0 x1 x3 v141=some res→Hw l nesting o0 x1 x3 v141 res)∧(∀ l nesting o01 x1 x3 v142 res,W7 l nesting o01 x1 x3 v142=some res→Iw l nesting o01 x1 x3 v142 res)∧(∀ l nesting o02 x1 x3 v143 v84 res,Gb l nesting o02 x1 x3 v143 v84=some res→Jw l nesting o02 x1 x3 v143 v84 res):=by
 refine U3.mutual_partial_correctness _ _ _ _ _ ?_ ?_ ?_ ?_ ?_
 ·intro g1 ih1 l nesting syntaxReport res hh
  exact P0.intro hC Tryz.func144 rfl rfl rfl (p' 1 rfl (qe' rfl trivial (B0.lenA _) (e' rfl (bk' (fq (ih1 _ _ _ _ _ hh) rfl)))))
 ·intro g2 ih2 l nesting o03 v14 res hh
  refine X0.unroll (t' rfl (S' (ci' rfl hh (fun hh=>?_) (fun hh=>?_))))
  ·obtain ⟨x1,hx1,hh⟩:=bs' hh
   obtain ⟨x2,hx2,hh⟩:=bs' hh
   obtain ⟨x3,hx3,hh⟩:=bs' hh
   obtain ⟨x4,hx4,hh⟩:=bs' hh
   obtain ⟨x5,hx5,hh⟩:=bs' hh
   refine sk' (S' (bk' (s' rfl rfl (i' rfl (Z0 hx1) (B0.idx hx1) rfl (q' rfl (F0.nf hC rfl (F0.s hC rfl (n' (p' 7 rfl (F0.s hC rfl (n' (p' 2 rfl (gq [0] (Mi hx2) rfl ?_)))))))))))))
   refine n' (p' 2 rfl (cq (P14 hx3) rfl (o' 3 rfl (F0.n hC rfl (F0.s hC rfl (e' rfl (p' 2 rfl (gq [0] (F1 hx4) rfl (n' (p' 5 rfl (gq [0] (Ag hx5) rfl (n' (S' ?_)))))))))))))
   refine t' rfl (ci' rfl hh (fun hh=>?_) (fun hh=>?_))
   ·obtain ⟨x6,hx6,hh⟩:=bs' hh
    obtain ⟨x7,hx7,hh⟩:=bs' hh
    exact P' 3 rfl (cq (Ay hx6) rfl (gq [0] (F1 hx7) rfl (n' (eq' (ih2 _ _ _ _ _ _ _ hh) rfl))))
   exact sk' (eq' (ih2 _ _ _ _ _ _ _ hh) rfl)
  cases hh
  exact ex' (rn' rfl rfl rfl)
 ·intro g3 ih3 l nesting o0 x1 x3 v141 res hh
  obtain ⟨x8,hx8,hh⟩:=bs' hh
  obtain ⟨x9,hx9,hh⟩:=bs' hh
  refine p' 5 rfl (gq [0] (Ag hx8) rfl (n' (sg' 8 rfl (G' 5 rfl (a1' rfl (a1' rfl (po' rfl (an' (gq [0] (F1 hx9) rfl (n' (S' (t' rfl (ci' rfl hh (fun hh=>?_) (fun hh=>?_))))))))))))))
  ·obtain ⟨x10,hx10,hh⟩:=bs' hh
   exact P' 3 rfl (gq [0] (Zb hx10) rfl (n' (eq' (ih3 _ _ _ _ _ _ _ hh) rfl)))
  exact sk' (eq' (ih3 _ _ _ _ _ _ _ hh) rfl)
 ·intro g4 ih4 l nesting o01 x1 x3 v142 res hh
  obtain ⟨x11,hx11,hh⟩:=bs' hh
  exact sg' 9 rfl (G' 5 rfl (a1' rfl (AG.qe hC rfl (fun hg=>⟨⟨hg,trivial⟩,trivial⟩) (A0.lenA _) (a1' rfl (po' rfl (an' (gq [0] (F1 hx11) rfl (n' (S' (p' 2 rfl (qe' rfl trivial (A0.lenA _) (e' rfl (bk' (fq (ih4 _ _ _ _ _ _ _ _ hh) rfl))))))))))))))
 ·intro g0 g1 g4 ih0 ih1 ih4 l nesting o02 x1 x3 v143 v84 res hh
  refine X0.unroll (t' rfl (S' (ci' rfl hh (fun hh=>?_) (fun hh=>?_))))
  ·obtain ⟨x12,hx12,hh⟩:=bs' hh
   obtain ⟨x13,hx13,hh⟩:=bs' hh
   exact sk' (S' (bk' (s' rfl rfl (i' rfl (Z0 hx12) (A0.idx hx12) rfl (q' rfl (F0.nf hC rfl (F0.s hC rfl (n' (P' 2 rfl (gq [0] (Oi hx13) rfl (n' (T' rfl (lq (ih4 _ _ _ _ _ _ _ _ hh) rfl)))))))))))))
  obtain ⟨x14,hx14,hh⟩:=bs' hh
  obtain ⟨x15,hx15,hh⟩:=bs' hh
  obtain ⟨x16,hx16,hh⟩:=bs' hh
  obtain ⟨x17,hx17,hh⟩:=bs' hh
  obtain ⟨x18,hx18,hh⟩:=bs' hh
  obtain ⟨x19,hx19,hh⟩:=bs' hh
  obtain ⟨x20,hx20,hh⟩:=bs' hh
  obtain ⟨x21,hx21,hh⟩:=bs' hh
  refine ex' (sg' 8 rfl (G' 5 rfl (a1' rfl (a1' rfl (po' rfl (an' (gq [0] (F1 hx14) rfl (n' (sg' 13 rfl (G' 5 rfl (a1' rfl (a1' rfl (a1' rfl ?_)))))))))))))
  refine a0' rfl (a1' rfl (a1' rfl (pA' rfl (po' rfl (an' (gq [0] (F1 hx15) rfl (n' (sg' 9 rfl (G' 5 rfl (a1' rfl (AG.qe hC rfl (fun hg=>⟨⟨hg,trivial⟩,trivial⟩) (ei64.lenA _) (a1' rfl (po' rfl ?_)))))))))))))
  refine an' (gq [0] (F1 hx16) rfl (n' (sg' 9 rfl (G' 5 rfl (a1' rfl (AG.qe hC rfl (fun hg=>⟨⟨hg,trivial⟩,trivial⟩) (B0.lenA _) (a1' rfl (po' rfl (an' (gq [0] (F1 hx17) rfl (n' (sg' 9 rfl (G' 5 rfl ?_)))))))))))))
  refine a1' rfl (AG.qe hC rfl (fun hg=>⟨⟨hg,trivial⟩,trivial⟩) (B0.lenA _) (a1' rfl (po' rfl (an' (gq [0] (F1 hx18) rfl (n' (p' 2 rfl (gq [0] (Fw hx19) rfl (n' (p' 5 rfl (gq [0] (ih0 _ _ _ _ hx20) rfl (n' (P' 5 rfl ?_)))))))))))))
  exact gq [0] (ih0 _ _ _ _ hx21) rfl (n' (T' rfl (lq (ih1 _ _ _ _ _ hh) rfl)))
theorem Xm {l nesting syntaxReport res}(hh:U3 l nesting syntaxReport=some res):Ho l nesting syntaxReport res:=(Ox).1 _ _ _ _ hh
mutual
def M6 (l:List C0)(syntaxReport:I0):Option I0:=
 X7 l syntaxReport 0
 partial_fixpoint
def X7 (l:List C0)(o03:I0)(v15:Int):Option I0:=
 if (decide (v15 < ((l).length:Int)))=true then
  idx l v15>>=fun x1=>
  Bl x1.Kind>>=fun x2=>
  D1 x2.1 (I0.mk (IntKind.i64.wrap (o03.nodes+1)) o03.depth o03.badForm o03.badName o03.badNumber)>>=fun x3=>
  (if (!x2.1)=true then K9 x1.TypeV (E0.mk 0 0 0 0 [] [] []) else some default)>>=fun x4=>
  if (bif x2.1 then true else (!x4))=true then
   N6 x1.TypeV 1 x3>>=fun x5=>
   Hb l x5 x1 x2 v15
  else
   Hb l x3 x1 x2 v15
 else
  some o03
 partial_fixpoint
def Hb (l:List C0)(o0:I0)(x1:C0)(x2:Bool×Bool)(v151:Int):Option I0:=
 A5 x1.Name o0>>=fun x6=>
 E4 x1.Value x2.2 x6>>=fun x7=>
 D1 (bif (x1.Kind == 4) then true else (x1.Init == 0)) x7>>=fun x8=>
 B4 x1.Init (-1048576) 1048576>>=fun x9=>
 (if (x9&&(!(x1.TypeV.Kind != 0)))=true then B4 x1.Init 0 1 else some default)>>=fun x10=>
 O2 (bif x9 then (bif (x1.TypeV.Kind != 0) then true else x10) else false) x8>>=fun x11=>
 D1 (bif (x1.Kind == 6) then true else (bif (bif (((x1.Params).length:Int) == 0) then (((x1.Vars).length:Int) == 0) else false) then (((x1.Body).length:Int) == 0) else false)) x11>>=fun x12=>
 Y7 l x12 x1 v151 0
 partial_fixpoint
def Y7 (l:List C0)(o01:I0)(x1:C0)(v152:Int)(v109:Int):Option I0:=
 if (decide (v109 < ((x1.Params).length:Int)))=true then
  idx x1.Params v109>>=fun x13=>
  D1 (bif (x13.Kind == 4) then (x13.Init == 0) else false) o01>>=fun x14=>
  Y7 l x14 x1 v152 (IntKind.i64.wrap (v109+1))
 else
  Ib l o01 x1 v152 0
 partial_fixpoint
def Ib (l:List C0)(o02:I0)(x1:C0)(v153:Int)(v127:Int):Option I0:=
 if (decide (v127 < ((x1.Vars).length:Int)))=true then
  idx x1.Vars v127>>=fun x15=>
  D1 (x15.Kind == 4) o02>>=fun x16=>
  Ib l x16 x1 v153 (IntKind.i64.wrap (v127+1))
 else
  M6 x1.Params o02>>=fun x17=>
  M6 x1.Vars x17>>=fun x18=>
  U3 x1.Body 1 x18>>=fun x19=>
  X7 l x19 (IntKind.i64.wrap (v153+1))
 partial_fixpoint
end
abbrev Io (l:List C0)(syntaxReport:I0)(res:I0):Prop:=P0 C 143 [.ref 0 0,.d (.sl (C0.rows l))] [.row (I0.cells syntaxReport) 103] (Ret [.row (I0.cells res) 103] (.tup []))
abbrev Kw (l:List C0)(o03:I0)(v15:Int)(res:I0):Prop:=LM C 150 1 Tryz.f143 [1,4] [(0,.ref 0 0),(13,.d (.sl (C0.rows l))),(14,.d (.int .i64 ((l).length:Int))),(15,.d (.int .i64 v15))] [.row (I0.cells o03) 103] (Ret [.row (I0.cells res) 103] (.tup []))
abbrev Lw (l:List C0)(o0:I0)(x1:C0)(x2:Bool×Bool)(v151:Int)(res:I0):Prop:=JM C 150 1 Tryz.f143 [1,4,5,1,1,0,4,1,1,1,1,1] [(0,.ref 0 0),(5,.ref 1 0),(7,.d (.bool x2.2)),(13,.d (.sl (C0.rows l))),(14,.d (.int .i64 ((l).length:Int))),(15,.d (.int .i64 v151))] [.row (I0.cells o0) 103,.row (C0.cells x1) 128] (Ret [.row (I0.cells res) 103] (.tup []))
abbrev Mw (l:List C0)(o01:I0)(x1:C0)(v152:Int)(v109:Int)(res:I0):Prop:=LM C 150 1 Tryz.f143 [1,4,5,1,1,0,4,1,1,1,1,1,1,1,1,1,1,1,0,1,4] [(0,.ref 0 0),(5,.ref 1 0),(13,.d (.sl (C0.rows l))),(14,.d (.int .i64 ((l).length:Int))),(15,.d (.int .i64 v152)),(107,.d (.sl (C0.rows x1.Params))),(108,.d (.int .i64 ((x1.Params).length:Int))),(109,.d (.int .i64 v109))] [.row (I0.cells o01) 103,.row (C0.cells x1) 128] (Ret [.row (I0.cells res) 103] (.tup []))
abbrev Nw (l:List C0)(o02:I0)(x1:C0)(v153:Int)(v127:Int)(res:I0):Prop:=LM C 150 1 Tryz.f143 [1,4,5,1,1,0,4,1,1,1,1,1,1,1,1,1,1,1,1,0,1,4] [(0,.ref 0 0),(5,.ref 1 0),(13,.d (.sl (C0.rows l))),(14,.d (.int .i64 ((l).length:Int))),(15,.d (.int .i64 v153)),(125,.d (.sl (C0.rows x1.Vars))),(126,.d (.int .i64 ((x1.Vars).length:Int))),(127,.d (.int .i64 v127))] [.row (I0.cells o02) 103,.row (C0.cells x1) 128] (Ret [.row (I0.cells res) 103] (.tup []))
theorem Px:(∀ l syntaxReport res,M6 l syntaxReport=some res→Io l syntaxReport res)∧(∀ l o03 v15 res,X7 l o03 v15=some res→Kw l o03 v15 res)∧(∀ l o0 x1 x2 v151 res,Hb l o0 x1 x2 v151=some res→Lw l o0 x1 x2 v151 res)∧(∀ l o01 x1 v152 v109 res,Y7 l o01 x1 v152 v109=some res→Mw l o01 x1 v152 v109 res)∧(∀ l o02 x1 v153 v127 res,Ib l o02 x1 v153 v127=some res→Nw l o02 x1 v153 v127 res):=by
 refine M6.mutual_partial_correctness _ _ _ _ _ ?_ ?_ ?_ ?_ ?_
 ·intro g1 ih1 l syntaxReport res hh
  exact P0.intro hC Tryz.func143 rfl rfl rfl (p' 1 rfl (qe' rfl trivial (C0.lenA _) (e' rfl (bk' (fq (ih1 _ _ _ _ hh) rfl)))))
 ·intro g2 ih2 l o03 v15 res hh
  refine X0.unroll (t' rfl (S' (ci' rfl hh (fun hh=>?_) (fun hh=>?_))))
  ·obtain ⟨x1,hx1,hh⟩:=bs' hh
   obtain ⟨x2,hx2,hh⟩:=bs' hh
   obtain ⟨x3,hx3,hh⟩:=bs' hh
   obtain ⟨x4,hx4,hh⟩:=bs' hh
   refine sk' (S' (bk' (s' rfl rfl (i' rfl (Z0 hx1) (C0.idx hx1) rfl (q' rfl (F0.nf hC rfl (F0.s hC rfl (n' (p' 7 rfl (F0.s hC rfl (n' (p' 2 rfl (cq (F16 hx2) rfl ?_)))))))))))))
   refine e' rfl (p' 2 rfl (gq [0] (F1 hx3) rfl (n' (S' (sg' 8 rfl (G' 3 rfl (a1' rfl (a0' rfl (AG.c rfl rfl (fun hg=>⟨hg,hg,trivial⟩) (fun hw=>N14 (V1 hw hx4)) (a1' rfl (po' rfl (an' (n' (ci' rfl hh (fun hh=>?_) (fun hh=>?_)))))))))))))))
   ·obtain ⟨x5,hx5,hh⟩:=bs' hh
    exact P' 3 rfl (gq [0] (U11 hx5) rfl (n' (eq' (ih2 _ _ _ _ _ _ hh) rfl)))
   exact sk' (eq' (ih2 _ _ _ _ _ _ hh) rfl)
  cases hh
  exact ex' (rn' rfl rfl rfl)
 ·intro g3 ih3 l o0 x1 x2 v151 res hh
  obtain ⟨x6,hx6,hh⟩:=bs' hh
  obtain ⟨x7,hx7,hh⟩:=bs' hh
  obtain ⟨x8,hx8,hh⟩:=bs' hh
  obtain ⟨x9,hx9,hh⟩:=bs' hh
  obtain ⟨x10,hx10,hh⟩:=bs' hh
  obtain ⟨x11,hx11,hh⟩:=bs' hh
  obtain ⟨x12,hx12,hh⟩:=bs' hh
  refine p' 3 rfl (gq [0] (Zb hx6) rfl (n' (p' 4 rfl (gq [0] (Ag hx7) rfl (n' (sg' 9 rfl (G' 6 rfl (a1' rfl (a1' rfl (po' rfl (an' (gq [0] (F1 hx8) rfl (n' ?_)))))))))))))
  refine sg' 15 rfl (G' 3 rfl (AG.c rfl rfl (fun _=>trivial) (fun _=>O4 hx9) (G' 2 rfl (a1' rfl (a1' rfl (a1' rfl (a1' rfl (a0' rfl (a1' rfl (AG.c rfl rfl (fun hg=>⟨hg,trivial⟩) (fun hw=>O4 (V1 hw hx10)) (pO' rfl (pa' rfl (an' ?_)))))))))))))
  refine gq [0] (K3 hx11) rfl (n' (t' rfl (sg' 20 rfl (G' 4 rfl (a1' rfl (AG.qe hC rfl (fun hg=>⟨⟨hg,trivial⟩,trivial⟩) (C0.lenA _) (a1' rfl (a1' rfl (a0' rfl (a1' rfl (AG.qe hC rfl (fun hg=>⟨⟨hg,trivial⟩,trivial⟩) (C0.lenA _) (a1' rfl (pA' rfl ?_)))))))))))))
  refine a1' rfl (a0' rfl (a1' rfl (AG.qe hC rfl (fun hg=>⟨⟨hg,trivial⟩,trivial⟩) (B0.lenA _) (a1' rfl (pA' rfl (po' rfl (an' (gq [0] (F1 hx12) rfl (n' (S' (p' 2 rfl (qe' rfl trivial (C0.lenA _) (e' rfl ?_)))))))))))))
  exact bk' (fq (ih3 _ _ _ _ _ _ hh) rfl)
 ·intro g3 g4 ih3 ih4 l o01 x1 v152 v109 res hh
  refine X0.unroll (t' rfl (S' (ci' rfl hh (fun hh=>?_) (fun hh=>?_))))
  ·obtain ⟨x13,hx13,hh⟩:=bs' hh
   obtain ⟨x14,hx14,hh⟩:=bs' hh
   refine sk' (S' (bk' (s' rfl rfl (i' rfl (Z0 hx13) (C0.idx hx13) rfl (q' rfl (F0.nf hC rfl (F0.s hC rfl (n' (AEx.regionG 9 rfl (G' 6 rfl (a1' rfl (a1' rfl (pa' rfl ?_)))))))))))))
   exact an' (gq [0] (F1 hx14) rfl (n' (T' rfl (lq (ih3 _ _ _ _ _ _ hh) rfl))))
  exact ex' (S' (p' 2 rfl (qe' rfl trivial (C0.lenA _) (e' rfl (bk' (fq (ih4 _ _ _ _ _ _ hh) rfl))))))
 ·intro g0 g1 g4 ih0 ih1 ih4 l o02 x1 v153 v127 res hh
  refine X0.unroll (t' rfl (S' (ci' rfl hh (fun hh=>?_) (fun hh=>?_))))
  ·obtain ⟨x15,hx15,hh⟩:=bs' hh
   obtain ⟨x16,hx16,hh⟩:=bs' hh
   exact sk' (S' (bk' (s' rfl rfl (i' rfl (Z0 hx15) (C0.idx hx15) rfl (q' rfl (F0.nf hC rfl (F0.s hC rfl (n' (P' 4 rfl (gq [0] (F1 hx16) rfl (n' (T' rfl (lq (ih4 _ _ _ _ _ _ hh) rfl)))))))))))))
  obtain ⟨x17,hx17,hh⟩:=bs' hh
  obtain ⟨x18,hx18,hh⟩:=bs' hh
  obtain ⟨x19,hx19,hh⟩:=bs' hh
  exact ex' (p' 3 rfl (gq [0] (ih0 _ _ _ hx17) rfl (n' (p' 3 rfl (gq [0] (ih0 _ _ _ hx18) rfl (n' (P' 3 rfl (gq [0] (Xm hx19) rfl (n' (T' rfl (lq (ih1 _ _ _ _ hh) rfl)))))))))))
theorem Az {l syntaxReport res}(hh:M6 l syntaxReport=some res):Io l syntaxReport res:=(Px).1 _ _ _ hh
def Vi (p:O0):Option I0:=
 M6 p.Decls (I0.mk 0 0 false false false)>>=fun x1=>
 U3 p.Body 1 x1>>=fun x2=>
 some x2
theorem E18 {p res}(hh:Vi p=some res):P0 C 89 [.agg (O0.cells p)] [] (Ret [.dead,.row (I0.cells res) 103] (.ref 1 0)):=by
 unfold Vi at hh
 obtain ⟨x1,hx1,hh⟩:=bs' hh
 obtain ⟨x2,hx2,hh⟩:=bs' hh
 refine P0.intro hC Tryz.func89 rfl rfl rfl (s' rfl rfl (F0.n hC rfl (e' rfl (p' 1 rfl (F0.n hC rfl (e' rfl (p' 3 rfl (gq [1] (Az hx1) rfl (n' (p' 3 rfl (gq [1] (Xm hx2) rfl (n' (t' rfl ?_)))))))))))))
 refine re' ?_
 obtain rfl:=oi' hh
 exact ⟨_,_,[.dead,.row (I0.cells x2) 103],rfl,.rfl,⟨trivial,⟨rfl,.refl _,rfl⟩,trivial⟩,rfl,rfl,rfl,rfl⟩
def Ml (p:O0):Option Int:=
 Vi p>>=fun x1=>
 D9 x1>>=fun x2=>
 some x2
theorem Q1b {p res}(hh:Ml p=some res):P0 C 47 [.agg (O0.cells p)] [] (Ret [] (.d (.int .i64 res))):=by
 unfold Ml at hh
 obtain ⟨x1,hx1,hh⟩:=bs' hh
 obtain ⟨x2,hx2,hh⟩:=bs' hh
 cases hh
 exact P0.intro hC Tryz.func47 rfl rfl rfl (s' rfl rfl (F0.n hC rfl (e' rfl (p' 1 rfl (gq [] (E18 hx1) rfl (gq [2] (Fo hx2) rfl (e' rfl (re' (rq rfl)))))))))
def Wi (text:Str):Option (O0×Int×Int):=
 Im text (O0.mk [] [])>>=fun x1=>
 if (x1.2.1 != 0)=true then
  some ((O0.mk [] []),x1.1,x1.2.1)
 else
  Ml x1.2.2>>=fun x2=>
  if (x2 != 0)=true then
   some ((O0.mk [] []),0,x2)
  else
   some (x1.2.2,0,0)
theorem R1b {text res}(hh:Wi text=some res):P0 C 21 [.d (.str text)] [] (Ret [] (.tup [.agg (O0.cells res.1),.d (.int .i64 res.2.1),.d (.int .i64 res.2.2)])):=by
 unfold Wi at hh
 obtain ⟨x1,hx1,hh⟩:=bs' hh
 refine P0.intro hC Tryz.func21 rfl rfl rfl (s' rfl rfl (F0.nf hC rfl (e' rfl (s' rfl rfl (F0.nf hC rfl (n' (p' 2 rfl (gq [1] (D18 hx1) rfl (e' rfl (S' (t' rfl (ci' rfl hh (fun hh=>?_) (fun hh=>?_)))))))))))))
 ·cases hh
  exact p' 3 rfl (F0.s hC rfl (e' rfl (re' (rq rfl))))
 obtain ⟨x2,hx2,hh⟩:=bs' hh
 refine sk' (S' (p' 1 rfl (cq (Q1b hx2) rfl (e' rfl (t' rfl (ci' rfl hh (fun hh=>?_) (fun hh=>?_)))))))
 ·cases hh
  exact p' 2 rfl (F0.s hC rfl (e' rfl (re' (rq rfl))))
 cases hh
 exact sk' (p' 1 rfl (F0.s hC rfl (e' rfl (re' (rq rfl)))))
def Cr (l:List K0)(atV:Int):Option Bool:=
 B1 l atV [116,121,112,101]>>=fun x1=>
 (if (!x1)=true then B1 l atV [115,101,99,114,101,116] else some default)>>=fun x2=>
 (if (!(bif x1 then true else x2))=true then B1 l atV [112,117,98,108,105,99] else some default)>>=fun x3=>
 (if (!(bif (bif x1 then true else x2) then true else x3))=true then B1 l atV [114,97,110,100,111,109] else some default)>>=fun x4=>
 (if (!(bif (bif (bif x1 then true else x2) then true else x3) then true else x4))=true then B1 l atV [118,97,114] else some default)>>=fun x5=>
 (if (!(bif (bif (bif (bif x1 then true else x2) then true else x3) then true else x4) then true else x5))=true then B1 l atV [104,97,116,99,104] else some default)>>=fun x6=>
 (if (!(bif (bif (bif (bif (bif x1 then true else x2) then true else x3) then true else x4) then true else x5) then true else x6))=true then B1 l atV [102,117,110,99] else some default)>>=fun x7=>
 some (bif (bif (bif (bif (bif (bif x1 then true else x2) then true else x3) then true else x4) then true else x5) then true else x6) then true else x7)
def Ym (l:List K0)(atV:Int):Option (Int×Int×Bool):=
 B1 l atV [116,114,117,101]>>=fun x1=>
 if x1=true then
  some (1,(IntKind.i64.wrap (atV+1)),true)
 else
  B1 l atV [102,97,108,115,101]>>=fun x2=>
  if x2=true then
   some (0,(IntKind.i64.wrap (atV+1)),true)
  else
   H5 l atV>>=fun x3=>
   some (x3.1,x3.2.1,x3.2.2)
def F8 (l:List K0)(x1:C0×Int×Bool)(o1_Init:Int)(atV1:Int):Option (C0×Int×Bool):=
 B1 l atV1 [59]>>=fun x4=>
 if (!x4)=true then
  some ((C0.mk x1.1.Kind x1.1.Name x1.1.TypeV o1_Init x1.1.Value x1.1.Params x1.1.Vars x1.1.Body),atV1,false)
 else
  some ((C0.mk x1.1.Kind x1.1.Name x1.1.TypeV o1_Init x1.1.Value x1.1.Params x1.1.Vars x1.1.Body),(IntKind.i64.wrap (atV1+1)),true)
def De (l:List K0)(atV:Int):Option (C0×Int×Bool):=
 T5 l atV>>=fun x1=>
 if (!x1.2.2)=true then
  some (x1.1,x1.2.1,false)
 else
  B1 l x1.2.1 [61]>>=fun x2=>
  if x2=true then
   Ym l (IntKind.i64.wrap (x1.2.1+1))>>=fun x3=>
   if (!x3.2.2)=true then
    some ((C0.mk x1.1.Kind x1.1.Name x1.1.TypeV x3.1 x1.1.Value x1.1.Params x1.1.Vars x1.1.Body),x3.2.1,false)
   else
    F8 l x1 x3.1 x3.2.1
  else
   F8 l x1 x1.1.Init x1.2.1
def Xi (l:List K0)(texts:List Str)(atV1:Int)(i:Int):Option (Int×Bool):=
 if (decide (i < ((texts).length:Int)))=true then
  idx texts i>>=fun x1=>
  B1 l atV1 x1>>=fun x2=>
  if (!x2)=true then
   some (atV1,false)
  else
   Xi l texts (IntKind.i64.wrap (atV1+1)) (IntKind.i64.wrap (i+1))
 else
  some (atV1,true)
 partial_fixpoint
def Pr (l:List K0)(atV:Int)(texts:List Str):Option (Int×Bool):=
 Xi l texts atV 0
def Yi (l:List K0)(atV:Int):Option Bool:=
 Lb l atV>>=fun x1=>
 (if (!x1.2.2)=true then B1 l atV [111,117,116,112,117,116] else some default)>>=fun x2=>
 (if (!(bif x1.2.2 then true else x2))=true then B1 l atV [119,97,105,116] else some default)>>=fun x3=>
 (if (!(bif (bif x1.2.2 then true else x2) then true else x3))=true then B1 l atV [105,102] else some default)>>=fun x4=>
 (if (!(bif (bif (bif x1.2.2 then true else x2) then true else x3) then true else x4))=true then B1 l atV [119,104,105,108,101] else some default)>>=fun x5=>
 (if (!(bif (bif (bif (bif x1.2.2 then true else x2) then true else x3) then true else x4) then true else x5))=true then B1 l atV [102,111,114] else some default)>>=fun x6=>
 (if (!(bif (bif (bif (bif (bif x1.2.2 then true else x2) then true else x3) then true else x4) then true else x5) then true else x6))=true then B1 l atV [115,101,116,116,108,101] else some default)>>=fun x7=>
 some (bif (bif (bif (bif (bif (bif x1.2.2 then true else x2) then true else x3) then true else x4) then true else x5) then true else x6) then true else x7)
def Lc (l:List K0)(o1_Verb:Int)(o1_Place:A0)(o1_Value:A0)(o1_Name:Str)(o1_Args:List A0)(o1_NV:Int)(o1_Low:Int)(o1_High:Int)(o1_Numbers:List Int)(o1_Then:List B0)(o1_Else:List B0)(atV1:Int)(ok:Bool):Option (B0×Int×Bool):=
 (if (!(!ok))=true then B1 l atV1 [59] else some default)>>=fun x9=>
 if (bif (!ok) then true else (!x9))=true then
  some ((B0.mk o1_Verb o1_Place o1_Value o1_Name o1_Args o1_NV o1_Low o1_High o1_Numbers o1_Then o1_Else),atV1,false)
 else
  some ((B0.mk o1_Verb o1_Place o1_Value o1_Name o1_Args o1_NV o1_Low o1_High o1_Numbers o1_Then o1_Else),(IntKind.i64.wrap (atV1+1)),true)
def G8 (l:List K0)(atV1:Int)(out:List Int):Option (List Int×Int×Bool):=
 H5 l atV1>>=fun x1=>
 if (!x1.2.2)=true then
  some (out,x1.2.1,false)
 else
  if (decide ((out.length+1) * 9≤140737488355328))=true then
   B1 l x1.2.1 [44]>>=fun x2=>
   if (!x2)=true then
    some ((out++[x1.1]),x1.2.1,true)
   else
    G8 l (IntKind.i64.wrap (x1.2.1+1)) (out++[x1.1])
  else none
 partial_fixpoint
def Dr (l:List K0)(atV:Int):Option (List Int×Int×Bool):=
 G8 l atV []
def Z6 (l:List K0)(atV1:Int)(out:List A0):Option (List A0×Int×Bool):=
 U1 l (IntKind.i64.wrap (atV1+1))>>=fun x3=>
 if (!x3.2.2)=true then
  some (out,x3.2.1,false)
 else
  if (decide ((out.length+1) * 57≤140737488355328))=true then
   B1 l x3.2.1 [41]>>=fun x4=>
   if x4=true then
    some ((out++[x3.1]),(IntKind.i64.wrap (x3.2.1+1)),true)
   else
    B1 l x3.2.1 [44]>>=fun x5=>
    if (!x5)=true then
     some ((out++[x3.1]),x3.2.1,false)
    else
     Z6 l x3.2.1 (out++[x3.1])
  else none
 partial_fixpoint
def Cl (l:List K0)(atV:Int):Option (List A0×Int×Bool):=
 B1 l atV [40]>>=fun x1=>
 if (!x1)=true then
  some ([],atV,false)
 else
  B1 l (IntKind.i64.wrap (atV+1)) [41]>>=fun x2=>
  if x2=true then
   some ([],(IntKind.i64.wrap (atV+2)),true)
  else
   Z6 l atV []
def Sb (l:List K0)(atV:Int):Option (B0×Int×Bool):=
 T7 l atV>>=fun x1=>
 (if (!(!x1.2.2))=true then B1 l x1.2.1 [61] else some default)>>=fun x2=>
 if (bif (!x1.2.2) then true else (!x2))=true then
  some ((B0.mk 0 (A0.mk 0 0 [] []) (A0.mk 0 0 [] []) [] [] 0 0 0 [] [] []),x1.2.1,false)
 else
  B1 l (IntKind.i64.wrap (x1.2.1+1)) [114,101,108,101,97,115,101]>>=fun x3=>
  if x3=true then
   Lb l (IntKind.i64.wrap ((IntKind.i64.wrap (x1.2.1+1))+1))>>=fun x4=>
   some ((B0.mk 2 x1.1 (A0.mk 0 0 [] []) x4.1 [] 0 0 0 [] [] []),x4.2.1,x4.2.2)
  else
   B1 l (IntKind.i64.wrap (x1.2.1+1)) [99,97,108,108]>>=fun x5=>
   if x5=true then
    Lb l (IntKind.i64.wrap ((IntKind.i64.wrap (x1.2.1+1))+1))>>=fun x6=>
    if (!x6.2.2)=true then
     some ((B0.mk 1 x1.1 (A0.mk 0 0 [] []) x6.1 [] 0 0 0 [] [] []),x6.2.1,false)
    else
     Cl l x6.2.1>>=fun x7=>
     some ((B0.mk 1 x1.1 (A0.mk 0 0 [] []) x6.1 x7.1 0 0 0 [] [] []),x7.2.1,x7.2.2)
   else
    U1 l (IntKind.i64.wrap (x1.2.1+1))>>=fun x8=>
    some ((B0.mk 0 x1.1 x8.1 [] [] 0 0 0 [] [] []),x8.2.1,x8.2.2)
mutual
def K7 (l:List K0)(atV:Int):Option (List B0×Int×Bool):=
 P5 l atV []
 partial_fixpoint
def P5 (l:List K0)(atV1:Int)(out:List B0):Option (List B0×Int×Bool):=
 Yi l atV1>>=fun x1=>
 if x1=true then
  J4 l atV1>>=fun x2=>
  if (!x2.2.2)=true then
   some (out,x2.2.1,false)
  else
   if (decide ((out.length+1) * 257≤140737488355328))=true then
    P5 l x2.2.1 (out++[x2.1])
   else none
 else
  some (out,atV1,true)
 partial_fixpoint
def J4 (l:List K0)(atV:Int):Option (B0×Int×Bool):=
 B1 l atV [105,102]>>=fun x1=>
 if x1=true then
  Rf l (IntKind.i64.wrap (atV+1))>>=fun x2=>
  some (x2.1,x2.2.1,x2.2.2)
 else
  B1 l atV [119,104,105,108,101]>>=fun x3=>
  if x3=true then
   Bz l (IntKind.i64.wrap (atV+1))>>=fun x4=>
   some (x4.1,x4.2.1,x4.2.2)
  else
   B1 l atV [102,111,114]>>=fun x5=>
   if x5=true then
    Rt l (IntKind.i64.wrap (atV+1))>>=fun x6=>
    some (x6.1,x6.2.1,x6.2.2)
   else
    B1 l atV [111,117,116,112,117,116]>>=fun x7=>
    if x7=true then
     U1 l (IntKind.i64.wrap (atV+1))>>=fun x8=>
     Lc l 3 (A0.mk 0 0 [] []) x8.1 [] [] 0 0 0 [] [] [] x8.2.1 x8.2.2
    else
     B1 l atV [119,97,105,116]>>=fun x10=>
     if x10=true then
      H5 l (IntKind.i64.wrap (atV+1))>>=fun x11=>
      Lc l 4 (A0.mk 0 0 [] []) (A0.mk 0 0 [] []) [] [] x11.1 0 0 [] [] [] x11.2.1 x11.2.2
     else
      B1 l atV [115,101,116,116,108,101]>>=fun x12=>
      if x12=true then
       Dr l (IntKind.i64.wrap (atV+1))>>=fun x13=>
       Lc l 8 (A0.mk 0 0 [] []) (A0.mk 0 0 [] []) [] [] 0 0 0 x13.1 [] [] x13.2.1 x13.2.2
      else
       Sb l atV>>=fun x14=>
       Lc l x14.1.Verb x14.1.Place x14.1.Value x14.1.Name x14.1.Args x14.1.NV x14.1.Low x14.1.High x14.1.Numbers x14.1.Then x14.1.Else x14.2.1 x14.2.2
 partial_fixpoint
def Rt (l:List K0)(atV:Int):Option (B0×Int×Bool):=
 Lb l atV>>=fun x1=>
 (if (!(!x1.2.2))=true then B1 l x1.2.1 [61] else some default)>>=fun x2=>
 if (bif (!x1.2.2) then true else (!x2))=true then
  some ((B0.mk 7 (A0.mk 0 0 [] []) (A0.mk 0 0 [] []) [] [] 0 0 0 [] [] []),x1.2.1,false)
 else
  H5 l (IntKind.i64.wrap (x1.2.1+1))>>=fun x3=>
  (if (!(!x3.2.2))=true then B1 l x3.2.1 [116,111] else some default)>>=fun x4=>
  if (bif (!x3.2.2) then true else (!x4))=true then
   some ((B0.mk 7 (A0.mk 0 0 [] []) (A0.mk 0 0 [] []) x1.1 [] 0 x3.1 0 [] [] []),x3.2.1,false)
  else
   H5 l (IntKind.i64.wrap (x3.2.1+1))>>=fun x5=>
   if (!x5.2.2)=true then
    some ((B0.mk 7 (A0.mk 0 0 [] []) (A0.mk 0 0 [] []) x1.1 [] 0 x3.1 x5.1 [] [] []),x5.2.1,false)
   else
    Ke l x5.2.1>>=fun x6=>
    some ((B0.mk 7 (A0.mk 0 0 [] []) (A0.mk 0 0 [] []) x1.1 [] 0 x3.1 x5.1 [] x6.1 []),x6.2.1,x6.2.2)
 partial_fixpoint
def Ke (l:List K0)(atV:Int):Option (List B0×Int×Bool):=
 B1 l atV [123]>>=fun x1=>
 if (!x1)=true then
  some ([],atV,false)
 else
  K7 l (IntKind.i64.wrap (atV+1))>>=fun x2=>
  (if (!(!x2.2.2))=true then B1 l x2.2.1 [125] else some default)>>=fun x3=>
  if (bif (!x2.2.2) then true else (!x3))=true then
   some (x2.1,x2.2.1,false)
  else
   some (x2.1,(IntKind.i64.wrap (x2.2.1+1)),true)
 partial_fixpoint
def Bz (l:List K0)(atV:Int):Option (B0×Int×Bool):=
 U1 l atV>>=fun x1=>
 (if (!(!x1.2.2))=true then B1 l x1.2.1 [108,105,109,105,116] else some default)>>=fun x2=>
 if (bif (!x1.2.2) then true else (!x2))=true then
  some ((B0.mk 6 (A0.mk 0 0 [] []) (A0.mk 0 0 [] []) [] [] 0 0 0 [] [] []),x1.2.1,false)
 else
  H5 l (IntKind.i64.wrap (x1.2.1+1))>>=fun x3=>
  if (!x3.2.2)=true then
   some ((B0.mk 6 (A0.mk 0 0 [] []) x1.1 [] [] x3.1 0 0 [] [] []),x3.2.1,false)
  else
   Ke l x3.2.1>>=fun x4=>
   some ((B0.mk 6 (A0.mk 0 0 [] []) x1.1 [] [] x3.1 0 0 [] x4.1 []),x4.2.1,x4.2.2)
 partial_fixpoint
def Rf (l:List K0)(atV:Int):Option (B0×Int×Bool):=
 U1 l atV>>=fun x1=>
 if (!x1.2.2)=true then
  some ((B0.mk 5 (A0.mk 0 0 [] []) (A0.mk 0 0 [] []) [] [] 0 0 0 [] [] []),x1.2.1,false)
 else
  Ke l x1.2.1>>=fun x2=>
  if (!x2.2.2)=true then
   some ((B0.mk 5 (A0.mk 0 0 [] []) x1.1 [] [] 0 0 0 [] x2.1 []),x2.2.1,false)
  else
   B1 l x2.2.1 [101,108,115,101]>>=fun x3=>
   if x3=true then
    Ke l (IntKind.i64.wrap (x2.2.1+1))>>=fun x4=>
    some ((B0.mk 5 (A0.mk 0 0 [] []) x1.1 [] [] 0 0 0 [] x2.1 x4.1),x4.2.1,x4.2.2)
   else
    some ((B0.mk 5 (A0.mk 0 0 [] []) x1.1 [] [] 0 0 0 [] x2.1 []),x2.2.1,x2.2.2)
 partial_fixpoint
end
def H8 (l:List K0)(x1:Str×Int×Bool)(x5:E0×Int×Bool)(o1_Params:List C0)(o1_Vars:List C0)(atV3:Int):Option (C0×Int×Bool):=
 B1 l atV3 [118,97,114]>>=fun x9=>
 if x9=true then
  De l (IntKind.i64.wrap (atV3+1))>>=fun x10=>
  if (!x10.2.2)=true then
   some ((C0.mk 6 x1.1 x5.1 0 (A0.mk 0 0 [] []) o1_Params o1_Vars []),x10.2.1,false)
  else
   if (decide ((o1_Vars.length+1) * 257≤140737488355328))=true then
    H8 l x1 x5 o1_Params (o1_Vars++[x10.1]) x10.2.1
   else none
 else
  K7 l atV3>>=fun x11=>
  (if (!(!x11.2.2))=true then B1 l x11.2.1 [114,101,116,117,114,110] else some default)>>=fun x12=>
  if (bif (!x11.2.2) then true else (!x12))=true then
   some ((C0.mk 6 x1.1 x5.1 0 (A0.mk 0 0 [] []) o1_Params o1_Vars x11.1),x11.2.1,false)
  else
   U1 l (IntKind.i64.wrap (x11.2.1+1))>>=fun x13=>
   if (!x13.2.2)=true then
    some ((C0.mk 6 x1.1 x5.1 0 x13.1 o1_Params o1_Vars x11.1),x13.2.1,false)
   else
    Pr l x13.2.1 [[59],[125]]>>=fun x14=>
    some ((C0.mk 6 x1.1 x5.1 0 x13.1 o1_Params o1_Vars x11.1),x14.1,x14.2)
 partial_fixpoint
def O6 (l:List K0)(x1:Str×Int×Bool)(o1_Params:List C0)(atV1:Int):Option (C0×Int×Bool):=
 Pr l atV1 [[41],[58]]>>=fun x4=>
 if (!x4.2)=true then
  some ((C0.mk 6 x1.1 (E0.mk 0 0 0 0 [] [] []) 0 (A0.mk 0 0 [] []) o1_Params [] []),x4.1,false)
 else
  Gc l x4.1>>=fun x5=>
  (if (!(!x5.2.2))=true then B1 l x5.2.1 [123] else some default)>>=fun x6=>
  if (bif (!x5.2.2) then true else (!x6))=true then
   some ((C0.mk 6 x1.1 x5.1 0 (A0.mk 0 0 [] []) o1_Params [] []),x5.2.1,false)
  else
   H8 l x1 x5 o1_Params [] (IntKind.i64.wrap (x5.2.1+1))
def V5 (l:List K0)(x1:Str×Int×Bool)(o1_Params1:List C0)(atV2:Int):Option (C0×Int×Bool):=
 T5 l atV2>>=fun x7=>
 if (!x7.2.2)=true then
  some ((C0.mk 6 x1.1 (E0.mk 0 0 0 0 [] [] []) 0 (A0.mk 0 0 [] []) o1_Params1 [] []),x7.2.1,false)
 else
  if (decide ((o1_Params1.length+1) * 257≤140737488355328))=true then
   B1 l x7.2.1 [44]>>=fun x8=>
   if (!x8)=true then
    O6 l x1 (o1_Params1++[x7.1]) x7.2.1
   else
    V5 l x1 (o1_Params1++[x7.1]) (IntKind.i64.wrap (x7.2.1+1))
  else none
 partial_fixpoint
def Gg (l:List K0)(atV:Int):Option (C0×Int×Bool):=
 Lb l atV>>=fun x1=>
 (if (!(!x1.2.2))=true then B1 l x1.2.1 [40] else some default)>>=fun x2=>
 if (bif (!x1.2.2) then true else (!x2))=true then
  some ((C0.mk 6 x1.1 (E0.mk 0 0 0 0 [] [] []) 0 (A0.mk 0 0 [] []) [] [] []),x1.2.1,false)
 else
  B1 l (IntKind.i64.wrap (x1.2.1+1)) [41]>>=fun x3=>
  if (!x3)=true then
   V5 l x1 [] (IntKind.i64.wrap (x1.2.1+1))
  else
   O6 l x1 [] (IntKind.i64.wrap (x1.2.1+1))
def X2 (l:List K0)(o1_Kind:Int)(x11:C0×Int×Bool)(o1_Value:A0)(atV1:Int):Option (C0×Int×Bool):=
 B1 l atV1 [59]>>=fun x12=>
 if (!x12)=true then
  some ((C0.mk o1_Kind x11.1.Name x11.1.TypeV x11.1.Init o1_Value x11.1.Params x11.1.Vars x11.1.Body),atV1,false)
 else
  some ((C0.mk o1_Kind x11.1.Name x11.1.TypeV x11.1.Init o1_Value x11.1.Params x11.1.Vars x11.1.Body),(IntKind.i64.wrap (atV1+1)),true)
def W5 (l:List K0)(atV:Int):Option (C0×Int×Bool):=
 B1 l atV [118,97,114]>>=fun x1=>
 if x1=true then
  De l (IntKind.i64.wrap (atV+1))>>=fun x2=>
  some (x2.1,x2.2.1,x2.2.2)
 else
  B1 l atV [102,117,110,99]>>=fun x3=>
  if x3=true then
   Gg l (IntKind.i64.wrap (atV+1))>>=fun x4=>
   some (x4.1,x4.2.1,x4.2.2)
  else
   B1 l atV [116,121,112,101]>>=fun x5=>
   if x5=true then
    Lb l (IntKind.i64.wrap (atV+1))>>=fun x6=>
    (if (!(!x6.2.2))=true then B1 l x6.2.1 [61] else some default)>>=fun x7=>
    if (bif (!x6.2.2) then true else (!x7))=true then
     some ((C0.mk 0 [] (E0.mk 0 0 0 0 [] [] []) 0 (A0.mk 0 0 [] []) [] [] []),x6.2.1,false)
    else
     Gc l (IntKind.i64.wrap (x6.2.1+1))>>=fun x8=>
     (if (!(!x8.2.2))=true then B1 l x8.2.1 [59] else some default)>>=fun x9=>
     if (bif (!x8.2.2) then true else (!x9))=true then
      some ((C0.mk 0 [] (E0.mk 0 0 0 0 [] [] []) 0 (A0.mk 0 0 [] []) [] [] []),x8.2.1,false)
     else
      some ((C0.mk 0 x6.1 x8.1 0 (A0.mk 0 0 [] []) [] [] []),(IntKind.i64.wrap (x8.2.1+1)),true)
   else
    idx l atV>>=fun x10=>
    T5 l (IntKind.i64.wrap (atV+1))>>=fun x11=>
    if (!x11.2.2)=true then
     some (x11.1,x11.2.1,false)
    else
     if (x10.Text == [115,101,99,114,101,116])=true then
      X2 l 1 x11 x11.1.Value x11.2.1
     else
      if (x10.Text == [112,117,98,108,105,99])=true then
       X2 l 2 x11 x11.1.Value x11.2.1
      else
       if (x10.Text == [114,97,110,100,111,109])=true then
        X2 l 3 x11 x11.1.Value x11.2.1
       else
        B1 l x11.2.1 [61]>>=fun x13=>
        if (!x13)=true then
         some ((C0.mk 5 x11.1.Name x11.1.TypeV x11.1.Init x11.1.Value x11.1.Params x11.1.Vars x11.1.Body),x11.2.1,false)
        else
         U1 l (IntKind.i64.wrap (x11.2.1+1))>>=fun x14=>
         if (!x14.2.2)=true then
          some ((C0.mk 5 x11.1.Name x11.1.TypeV x11.1.Init x14.1 x11.1.Params x11.1.Vars x11.1.Body),x14.2.1,false)
         else
          X2 l 5 x11 x14.1 x14.2.1
def Tb (l:List K0)(o1_Decls:List C0)(atV1:Int):Option (O0×Int×Bool):=
 Cr l atV1>>=fun x1=>
 if x1=true then
  W5 l atV1>>=fun x2=>
  if (!x2.2.2)=true then
   some ((O0.mk o1_Decls []),x2.2.1,false)
  else
   if (decide ((o1_Decls.length+1) * 257≤140737488355328))=true then
    Tb l (o1_Decls++[x2.1]) x2.2.1
   else none
 else
  B1 l atV1 [98,101,103,105,110]>>=fun x3=>
  if (!x3)=true then
   some ((O0.mk o1_Decls []),atV1,false)
  else
   K7 l (IntKind.i64.wrap (atV1+1))>>=fun x4=>
   (if (!(!x4.2.2))=true then B1 l x4.2.1 [101,110,100] else some default)>>=fun x5=>
   if (bif (!x4.2.2) then true else (!x5))=true then
    some ((O0.mk o1_Decls []),x4.2.1,false)
   else
    some ((O0.mk o1_Decls x4.1),(IntKind.i64.wrap (x4.2.1+1)),true)
 partial_fixpoint
def Jn (l:List K0)(atV:Int):Option (O0×Int×Bool):=
 Tb l [] atV
def Zi (k:Int):Option Bool:=
 some (bif (decide (k≥0)) then (decide (k≤6)) else false)
theorem Gu {k res}(hh:Zi k=some res):P0 C 151 [.d (.int .i64 k)] [] (Ret [] (.d (.bool res))):=by
 unfold Zi at hh
 cases hh
 exact P0.intro hC Tryz.func151 rfl rfl rfl (t' rfl (sg' 7 rfl (G' 4 rfl (a1' rfl (pa' rfl (a0' rfl (an' (n' (re' (rq rfl))))))))))
def Ff (k:Int):Option Bool:=
 some (bif (k == 5) then true else (k == 6))
theorem Nl {k res}(hh:Ff k=some res):P0 C 152 [.d (.int .i64 k)] [] (Ret [] (.d (.bool res))):=by
 unfold Ff at hh
 cases hh
 exact P0.intro hC Tryz.func152 rfl rfl rfl (t' rfl (sg' 7 rfl (G' 4 rfl (a1' rfl (po' rfl (a0' rfl (an' (n' (re' (rq rfl))))))))))
def Gf (v:Int):Option Bool:=
 some (bif (bif (v == 0) then true else (v == 1)) then true else (v == 2))
theorem Ol {v res}(hh:Gf v=some res):P0 C 153 [.d (.int .i64 v)] [] (Ret [] (.d (.bool res))):=by
 unfold Gf at hh
 cases hh
 exact P0.intro hC Tryz.func153 rfl rfl rfl (t' rfl (sg' 11 rfl (G' 4 rfl (a1' rfl (po' rfl (G' 2 rfl (a1' rfl (po' rfl (a0' rfl (an' (n' (re' (rq rfl)))))))))))))
def Jf (v:Int):Option Bool:=
 some (bif (bif (bif (v == 0) then true else (v == 3)) then true else (v == 5)) then true else (v == 6))
theorem Pl {v res}(hh:Jf v=some res):P0 C 154 [.d (.int .i64 v)] [] (Ret [] (.d (.bool res))):=by
 unfold Jf at hh
 cases hh
 refine P0.intro hC Tryz.func154 rfl rfl rfl (t' rfl (sg' 15 rfl (G' 4 rfl (a1' rfl (po' rfl (G' 2 rfl (a1' rfl (po' rfl (G' 2 rfl (a1' rfl (po' rfl (a0' rfl (an' ?_)))))))))))))
 exact n' (re' (rq rfl))
mutual
def Ga (s:R0)(l:List B0)(d:Int):Option R0:=
 Ld l d s 0
 partial_fixpoint
def Ld (l:List B0)(d:Int)(o01:R0)(i:Int):Option R0:=
 if (decide (i < ((l).length:Int)))=true then
  idx l i>>=fun x1=>
  C8 (R0.mk (IntKind.i64.wrap (o01.nodes+1)) o01.depth) d>>=fun x2=>
  Gf x1.Verb>>=fun x3=>
  Mb x2 x1.Place x3>>=fun x4=>
  Jf x1.Verb>>=fun x5=>
  Mb x4 x1.Value x5>>=fun x6=>
  Sf l d x6 x1 i 0
 else
  some o01
 partial_fixpoint
def Sf (l:List B0)(d:Int)(o0:R0)(x1:B0)(i1:Int)(k:Int):Option R0:=
 if (decide (k < ((x1.Args).length:Int)))=true then
  idx x1.Args k>>=fun x7=>
  Mb o0 x7 true>>=fun x8=>
  Sf l d x8 x1 i1 (IntKind.i64.wrap (k+1))
 else
  Ga o0 x1.Then (IntKind.i64.wrap (d+1))>>=fun x9=>
  Ga x9 x1.Else (IntKind.i64.wrap (d+1))>>=fun x10=>
  Ld l d x10 (IntKind.i64.wrap (i1+1))
 partial_fixpoint
end
abbrev Ow (s:R0)(l:List B0)(d:Int)(res:R0):Prop:=P0 C 149 [.agg (R0.cells s),.d (.sl (B0.rows l)),.d (.int .i64 d)] [] (Ret [] (.agg (R0.cells res)))
abbrev Q14 (l:List B0)(d:Int)(o01:R0)(i:Int)(res:R0):Prop:=LM C 68 0 Tryz.f149 [1,0,1,4] [(1,.d (.sl (B0.rows l))),(2,.d (.int .i64 d)),(3,.ref 0 0),(6,.ref 1 0),(7,.d (.int .i64 i))] [.row (R0.cells o01) 110,.row [.d (.int .i64 0),.d (.int .i64 0)] 110] (Ret [] (.agg (R0.cells res)))
abbrev R14 (l:List B0)(d:Int)(o0:R0)(x1:B0)(i1:Int)(k:Int)(res:R0):Prop:=LM C 68 0 Tryz.f149 [1,0,1,4,5,1,0,4,1,1,1,1,1,0,1,4] [(1,.d (.sl (B0.rows l))),(2,.d (.int .i64 d)),(3,.ref 0 0),(6,.ref 1 0),(7,.d (.int .i64 i1)),(8,.ref 2 0),(9,.d (.int .i64 k))] [.row (R0.cells o0) 110,.row [.d (.int .i64 0),.d (.int .i64 0)] 110,.row (B0.cells x1) 144] (Ret [] (.agg (R0.cells res)))
theorem G16:(∀ s l d res,Ga s l d=some res→Ow s l d res)∧(∀ l d o01 i res,Ld l d o01 i=some res→Q14 l d o01 i res)∧(∀ l d o0 x1 i1 k res,Sf l d o0 x1 i1 k=some res→R14 l d o0 x1 i1 k res):=by
 refine Ga.mutual_partial_correctness _ _ _ ?_ ?_ ?_
 ·intro g1 ih1 s l d res hh
  exact P0.intro hC Tryz.func149 rfl rfl rfl (s' rfl rfl (F0.n hC rfl (F0.n hC rfl (n' (S' (t' rfl (bk' (fq (ih1 _ _ _ _ _ hh) rfl))))))))
 ·intro g2 ih2 l d o01 i res hh
  refine X0.unroll (S' (p' 2 rfl (qe' rfl trivial (B0.lenA _) (e' rfl (ci' rfl hh (fun hh=>?_) (fun hh=>?_))))))
  ·obtain ⟨x1,hx1,hh⟩:=bs' hh
   obtain ⟨x2,hx2,hh⟩:=bs' hh
   obtain ⟨x3,hx3,hh⟩:=bs' hh
   obtain ⟨x4,hx4,hh⟩:=bs' hh
   obtain ⟨x5,hx5,hh⟩:=bs' hh
   obtain ⟨x6,hx6,hh⟩:=bs' hh
   refine sk' (S' (bk' (p' 2 rfl (i' rfl (Z0 hx1) (B0.idx hx1) rfl (q' rfl (F0.nf hC rfl (F0.s hC rfl (n' (p' 4 rfl (F0.s hC rfl (n' (p' 2 rfl (cq (Wj hx2) rfl ?_)))))))))))))
   refine F0.s hC rfl (n' (S' (AEx.draw hC 7 rfl rfl rfl (O' 5 rfl (Qc' (Ol hx3) rfl rfl (Qc' (Xj hx4) rfl rfl (Qn' (F0.s hC rfl (n' (S' (AEx.draw hC 7 rfl rfl rfl (O' 5 rfl (Qc' (Pl hx5) rfl rfl ?_)))))))))))))
   exact Qc' (Xj hx6) rfl rfl (Qn' (F0.s hC rfl (n' (S' (t' rfl (bk' (fq (ih2 _ _ _ _ _ _ _ hh) rfl)))))))
  cases hh
  exact ex' (p' 1 rfl (F0.s hC rfl (n' (re' (rq rfl)))))
 ·intro g0 g1 g2 ih0 ih1 ih2 l d o0 x1 i1 k res hh
  refine X0.unroll (S' (p' 3 rfl (qe' rfl trivial (A0.lenA _) (e' rfl (ci' rfl hh (fun hh=>?_) (fun hh=>?_))))))
  ·obtain ⟨x7,hx7,hh⟩:=bs' hh
   obtain ⟨x8,hx8,hh⟩:=bs' hh
   exact sk' (S' (bk' (AEx.draw hC 7 rfl rfl rfl (O' 4 rfl (AQ.i hC rfl (Z0 hx7) (A0.idx hx7) rfl (Q' rfl (Qc' (Xj hx8) rfl rfl (Qn' (F0.s hC rfl (n' (T' rfl (lq (ih2 _ _ _ _ _ _ _ hh) rfl))))))))))))
  obtain ⟨x9,hx9,hh⟩:=bs' hh
  obtain ⟨x10,hx10,hh⟩:=bs' hh
  exact ex' (p' 5 rfl (cq (ih0 _ _ _ _ hx9) rfl (F0.s hC rfl (n' (P' 5 rfl (cq (ih0 _ _ _ _ hx10) rfl (F0.s hC rfl (n' (T' rfl (lq (ih1 _ _ _ _ _ hh) rfl))))))))))
theorem Hu {s l d res}(hh:Ga s l d=some res):Ow s l d res:=(G16).1 _ _ _ _ hh
mutual
def Mc (s:R0)(l:List C0):Option R0:=
 Md l s 0
 partial_fixpoint
def Md (l:List C0)(o0:R0)(i:Int):Option R0:=
 if (decide (i < ((l).length:Int)))=true then
  idx l i>>=fun x1=>
  Zi x1.Kind>>=fun x2=>
  Hk (R0.mk (IntKind.i64.wrap (o0.nodes+1)) o0.depth) x1.TypeV x2>>=fun x3=>
  Ff x1.Kind>>=fun x4=>
  Mb x3 x1.Value x4>>=fun x5=>
  Mc x5 x1.Params>>=fun x6=>
  Mc x6 x1.Vars>>=fun x7=>
  Ga x7 x1.Body 1>>=fun x8=>
  Md l x8 (IntKind.i64.wrap (i+1))
 else
  some o0
 partial_fixpoint
end
abbrev Pw (s:R0)(l:List C0)(res:R0):Prop:=P0 C 150 [.agg (R0.cells s),.d (.sl (C0.rows l))] [] (Ret [] (.agg (R0.cells res)))
abbrev S14 (l:List C0)(o0:R0)(i:Int)(res:R0):Prop:=LM C 48 0 Tryz.f150 [1,0,1,4] [(1,.d (.sl (C0.rows l))),(2,.ref 0 0),(4,.ref 1 0),(5,.d (.int .i64 i))] [.row (R0.cells o0) 110,.row [.d (.int .i64 0),.d (.int .i64 0)] 110] (Ret [] (.agg (R0.cells res)))
theorem H16:(∀ s l res,Mc s l=some res→Pw s l res)∧(∀ l o0 i res,Md l o0 i=some res→S14 l o0 i res):=by
 refine Mc.mutual_partial_correctness _ _ ?_ ?_
 ·intro g1 ih1 s l res hh
  exact P0.intro hC Tryz.func150 rfl rfl rfl (s' rfl rfl (F0.n hC rfl (F0.n hC rfl (n' (S' (t' rfl (bk' (fq (ih1 _ _ _ _ hh) rfl))))))))
 ·intro g0 g1 ih0 ih1 l o0 i res hh
  refine X0.unroll (S' (p' 2 rfl (qe' rfl trivial (C0.lenA _) (e' rfl (ci' rfl hh (fun hh=>?_) (fun hh=>?_))))))
  ·obtain ⟨x1,hx1,hh⟩:=bs' hh
   obtain ⟨x2,hx2,hh⟩:=bs' hh
   obtain ⟨x3,hx3,hh⟩:=bs' hh
   obtain ⟨x4,hx4,hh⟩:=bs' hh
   obtain ⟨x5,hx5,hh⟩:=bs' hh
   obtain ⟨x6,hx6,hh⟩:=bs' hh
   obtain ⟨x7,hx7,hh⟩:=bs' hh
   obtain ⟨x8,hx8,hh⟩:=bs' hh
   refine sk' (S' (bk' (p' 2 rfl (i' rfl (Z0 hx1) (C0.idx hx1) rfl (q' rfl (F0.nf hC rfl (F0.s hC rfl (n' (p' 4 rfl (F0.s hC rfl (n' (S' (AEx.draw hC 7 rfl rfl rfl ?_)))))))))))))
   refine O' 5 rfl (Qc' (Gu hx2) rfl rfl (Qc' (N19 hx3) rfl rfl (Qn' (F0.s hC rfl (n' (S' (AEx.draw hC 7 rfl rfl rfl (O' 5 rfl (Qc' (Nl hx4) rfl rfl (Qc' (Xj hx5) rfl rfl (Qn' (F0.s hC rfl (n' ?_)))))))))))))
   exact p' 3 rfl (cq (ih0 _ _ _ hx6) rfl (F0.s hC rfl (n' (p' 3 rfl (cq (ih0 _ _ _ hx7) rfl (F0.s hC rfl (n' (P' 3 rfl (cq (Hu hx8) rfl (F0.s hC rfl (n' (T' rfl (lq (ih1 _ _ _ _ hh) rfl)))))))))))))
  cases hh
  exact ex' (p' 1 rfl (F0.s hC rfl (n' (re' (rq rfl)))))
theorem F18 {s l res}(hh:Mc s l=some res):Pw s l res:=(H16).1 _ _ _ hh
def Zm (p:O0):Option R0:=
 Mc (R0.mk 0 0) p.Decls>>=fun x1=>
 Ga x1 p.Body 1>>=fun x2=>
 some x2
theorem E1d {p res}(hh:Zm p=some res):P0 C 93 [.agg (O0.cells p)] [] (Ret [] (.agg (R0.cells res))):=by
 unfold Zm at hh
 obtain ⟨x1,hx1,hh⟩:=bs' hh
 obtain ⟨x2,hx2,hh⟩:=bs' hh
 cases hh
 refine P0.intro hC Tryz.func93 rfl rfl rfl (s' rfl rfl (F0.n hC rfl (F0.n hC rfl (n' (S' (AEx.draw hC 7 rfl rfl rfl (O' 3 rfl (Qc' (F18 hx1) rfl rfl (O' 2 rfl (Qc' (Hu hx2) rfl rfl (Qn' (F0.s hC rfl (n' ?_)))))))))))))
 exact re' (rq rfl)
def Aj (v:Int):Option Bool:=
 some (bif (bif (v == 1) then true else (v == 2)) then true else (v == 7))
theorem Iu {v res}(hh:Aj v=some res):P0 C 155 [.d (.int .i64 v)] [] (Ret [] (.d (.bool res))):=by
 unfold Aj at hh
 cases hh
 exact P0.intro hC Tryz.func155 rfl rfl rfl (t' rfl (sg' 11 rfl (G' 4 rfl (a1' rfl (po' rfl (G' 2 rfl (a1' rfl (po' rfl (a0' rfl (an' (n' (re' (rq rfl)))))))))))))
def Rr (v:Int):Option Bool:=
 some (bif (v == 4) then true else (v == 6))
theorem F1d {v res}(hh:Rr v=some res):P0 C 156 [.d (.int .i64 v)] [] (Ret [] (.d (.bool res))):=by
 unfold Rr at hh
 cases hh
 exact P0.intro hC Tryz.func156 rfl rfl rfl (t' rfl (sg' 7 rfl (G' 4 rfl (a1' rfl (po' rfl (a0' rfl (an' (n' (re' (rq rfl))))))))))
def Jm (v:Int):Option Bool:=
 some (bif (bif (v == 5) then true else (v == 6)) then true else (v == 7))
theorem G18 {v res}(hh:Jm v=some res):P0 C 157 [.d (.int .i64 v)] [] (Ret [] (.d (.bool res))):=by
 unfold Jm at hh
 cases hh
 exact P0.intro hC Tryz.func157 rfl rfl rfl (t' rfl (sg' 11 rfl (G' 4 rfl (a1' rfl (po' rfl (G' 2 rfl (a1' rfl (po' rfl (a0' rfl (an' (n' (re' (rq rfl)))))))))))))
mutual
def N8 (l:List B0):Option Bool:=
 Nc l 0
 partial_fixpoint
def Nc (l:List B0)(i:Int):Option Bool:=
 if (decide (i < ((l).length:Int)))=true then
  idx l i>>=fun x1=>
  if (bif (decide (x1.Verb < 0)) then true else (decide (x1.Verb > 8)))=true then
   some false
  else
   Gf x1.Verb>>=fun x2=>
   (if x2=true then Od x1.Place else some default)>>=fun x3=>
   (if (x2&&(!(!x3)))=true then X5 x1.Place else some default)>>=fun x4=>
   (if (!(bif x2 then (bif (!x3) then true else (!x4)) else false))=true then Gf x1.Verb else some default)>>=fun x5=>
   (if ((!(bif x2 then (bif (!x3) then true else (!x4)) else false))&&(!x5))=true then Dc x1.Place else some default)>>=fun x6=>
   if (bif (bif x2 then (bif (!x3) then true else (!x4)) else false) then true else (bif (!x5) then (!x6) else false))=true then
    some false
   else
    Jf x1.Verb>>=fun x7=>
    (if x7=true then X5 x1.Value else some default)>>=fun x8=>
    (if (!(bif x7 then (!x8) else false))=true then Jf x1.Verb else some default)>>=fun x9=>
    (if ((!(bif x7 then (!x8) else false))&&(!x9))=true then Dc x1.Value else some default)>>=fun x10=>
    if (bif (bif x7 then (!x8) else false) then true else (bif (!x9) then (!x10) else false))=true then
     some false
    else
     Aj x1.Verb>>=fun x11=>
     (if (!(bif (bif (!x11) then (!(x1.Name == [])) else false) then true else (bif (x1.Verb != 1) then (((x1.Args).length:Int) != 0) else false)))=true then Rr x1.Verb else some default)>>=fun x12=>
     if (bif (bif (bif (bif (bif (!x11) then (!(x1.Name == [])) else false) then true else (bif (x1.Verb != 1) then (((x1.Args).length:Int) != 0) else false)) then true else (bif (!x12) then (x1.NV != 0) else false)) then true else (bif (x1.Verb != 7) then (bif (x1.Low != 0) then true else (x1.High != 0)) else false)) then true else (bif (x1.Verb != 8) then (((x1.Numbers).length:Int) != 0) else false))=true then
      some false
     else
      Jm x1.Verb>>=fun x13=>
      if (bif (bif (!x13) then (((x1.Then).length:Int) != 0) else false) then true else (bif (x1.Verb != 5) then (((x1.Else).length:Int) != 0) else false))=true then
       some false
      else
       We l x1 i 0
 else
  some true
 partial_fixpoint
def We (l:List B0)(x1:B0)(i1:Int)(k:Int):Option Bool:=
 if (decide (k < ((x1.Args).length:Int)))=true then
  idx x1.Args k>>=fun x14=>
  X5 x14>>=fun x15=>
  if (!x15)=true then
   some false
  else
   We l x1 i1 (IntKind.i64.wrap (k+1))
 else
  N8 x1.Then>>=fun x16=>
  (if (!(!x16))=true then N8 x1.Else else some default)>>=fun x17=>
  if (bif (!x16) then true else (!x17))=true then
   some false
  else
   Nc l (IntKind.i64.wrap (i1+1))
 partial_fixpoint
end
abbrev Ju (l:List B0)(res:Bool):Prop:=P0 C 95 [.d (.sl (B0.rows l))] [] (Ret [] (.d (.bool res)))
abbrev E12 (l:List B0)(i:Int)(res:Bool):Prop:=LM C 174 0 Tryz.f95 [1,0,1,4] [(0,.d (.sl (B0.rows l))),(3,.d (.int .i64 i))] [] (Ret [] (.d (.bool res)))
abbrev F12 (l:List B0)(x1:B0)(i1:Int)(k:Int)(res:Bool):Prop:=LM C 174 0 Tryz.f95 [1,0,1,4,5,1,0,4,1,1,1,1,1,1,0,1,4] [(0,.d (.sl (B0.rows l))),(3,.d (.int .i64 i1)),(4,.ref 0 0),(5,.d (.int .i64 k))] [.row (B0.cells x1) 144] (Ret [] (.d (.bool res)))
theorem T14:(∀ l res,N8 l=some res→Ju l res)∧(∀ l i res,Nc l i=some res→E12 l i res)∧(∀ l x1 i1 k res,We l x1 i1 k=some res→F12 l x1 i1 k res):=by
 refine N8.mutual_partial_correctness _ _ _ ?_ ?_ ?_
 ·intro g1 ih1 l res hh
  exact P0.intro hC Tryz.func95 rfl rfl rfl (t' rfl (S' (t' rfl (bk' (fq (ih1 _ _ _ hh) rfl)))))
 ·intro g2 ih2 l i res hh
  refine X0.unroll (S' (p' 2 rfl (qe' rfl trivial (B0.lenA _) (e' rfl (ci' rfl hh (fun hh=>?_) (fun hh=>?_))))))
  ·obtain ⟨x1,hx1,hh⟩:=bs' hh
   refine sk' (S' (bk' (p' 2 rfl (i' rfl (Z0 hx1) (B0.idx hx1) rfl (q' rfl (F0.nf hC rfl (F0.s hC rfl (n' (S' (sg' 8 rfl (G' 5 rfl (a1' rfl (a1' rfl ?_)))))))))))))
   refine po' rfl (an' (n' (ci' rfl hh (fun hh=>?_) (fun hh=>?_))))
   ·cases hh
    exact t' rfl (re' (rq rfl))
   obtain ⟨x2,hx2,hh⟩:=bs' hh
   obtain ⟨x3,hx3,hh⟩:=bs' hh
   obtain ⟨x4,hx4,hh⟩:=bs' hh
   obtain ⟨x5,hx5,hh⟩:=bs' hh
   obtain ⟨x6,hx6,hh⟩:=bs' hh
   refine sk' (S' (sg' 27 rfl (G' 2 rfl (AG.c rfl rfl (fun _=>trivial) (fun _=>Ol hx2) (G' 2 rfl (a1' rfl (AG.c rfl rfl (fun hg=>⟨hg,trivial⟩) (fun hw=>Xv (V1 hw hx3)) (a1' rfl (a1' rfl (a0' rfl (a1' rfl (AG.c rfl rfl (fun hg=>⟨hg,trivial⟩) (fun hw=>Ai (V1 hw hx4)) (a1' rfl ?_)))))))))))))
   refine pO' rfl (pa' rfl (G' 2 rfl (a1' rfl (AG.c rfl rfl (fun hg=>⟨hg,trivial⟩) (fun hw=>Ol (V1 hw hx5)) (a1' rfl (a1' rfl (a0' rfl (a1' rfl (AG.c rfl rfl (fun hg=>⟨hg,trivial⟩) (fun hw=>Zh (V1 hw hx6)) (a1' rfl (pA' rfl (po' rfl (an' ?_)))))))))))))
   refine n' (ci' rfl hh (fun hh=>?_) (fun hh=>?_))
   ·cases hh
    exact t' rfl (re' (rq rfl))
   obtain ⟨x7,hx7,hh⟩:=bs' hh
   obtain ⟨x8,hx8,hh⟩:=bs' hh
   obtain ⟨x9,hx9,hh⟩:=bs' hh
   obtain ⟨x10,hx10,hh⟩:=bs' hh
   refine sk' (S' (sg' 21 rfl (G' 2 rfl (AG.c rfl rfl (fun _=>trivial) (fun _=>Pl hx7) (G' 2 rfl (a1' rfl (AG.c rfl rfl (fun hg=>⟨hg,trivial⟩) (fun hw=>Ai (V1 hw hx8)) (a1' rfl (pa' rfl (G' 2 rfl (a1' rfl (AG.c rfl rfl (fun hg=>⟨hg,trivial⟩) (fun hw=>Pl (V1 hw hx9)) (a1' rfl ?_)))))))))))))
   refine a1' rfl (a0' rfl (a1' rfl (AG.c rfl rfl (fun hg=>⟨hg,trivial⟩) (fun hw=>Zh (V1 hw hx10)) (a1' rfl (pA' rfl (po' rfl (an' (n' (ci' rfl hh (fun hh=>?_) (fun hh=>?_))))))))))
   ·cases hh
    exact t' rfl (re' (rq rfl))
   obtain ⟨x11,hx11,hh⟩:=bs' hh
   obtain ⟨x12,hx12,hh⟩:=bs' hh
   refine sk' (S' (sg' 57 rfl (G' 2 rfl (AG.c rfl rfl (fun _=>trivial) (fun _=>Iu hx11) (G' 3 rfl (a1' rfl (a1' rfl (pa' rfl (G' 2 rfl (a1' rfl (a1' rfl (a1' rfl (a0' rfl ?_)))))))))))))
   refine a1' rfl (AG.qe hC rfl (fun hg=>⟨⟨hg,trivial⟩,trivial⟩) (A0.lenA _) (a1' rfl (pA' rfl (po' rfl (G' 2 rfl (a1' rfl (AG.c rfl rfl (fun hg=>⟨hg,trivial⟩) (fun hw=>F1d (V1 hw hx12)) (a1' rfl (a1' rfl (a0' rfl (a1' rfl (a1' rfl (pA' rfl ?_)))))))))))))
   refine po' rfl (G' 2 rfl (a1' rfl (a1' rfl (a1' rfl (a0' rfl (a1' rfl (a1' rfl (a1' rfl (a0' rfl (a1' rfl (a1' rfl (pO' rfl (pA' rfl ?_)))))))))))))
   refine po' rfl (G' 2 rfl (a1' rfl (a1' rfl (a1' rfl (a0' rfl (a1' rfl (AG.qe hC rfl (fun hg=>⟨⟨hg,trivial⟩,trivial⟩) (ei64.lenA _) (a1' rfl (pA' rfl (po' rfl (an' (n' (ci' rfl hh (fun hh=>?_) (fun hh=>?_))))))))))))))
   ·cases hh
    exact t' rfl (re' (rq rfl))
   obtain ⟨x13,hx13,hh⟩:=bs' hh
   refine sk' (S' (sg' 21 rfl (G' 2 rfl (AG.c rfl rfl (fun _=>trivial) (fun _=>G18 hx13) (G' 3 rfl (a1' rfl (AG.qe hC rfl (fun hg=>⟨⟨hg,trivial⟩,trivial⟩) (B0.lenA _) (a1' rfl (pa' rfl (G' 2 rfl (a1' rfl (a1' rfl (a1' rfl ?_)))))))))))))
   refine a0' rfl (a1' rfl (AG.qe hC rfl (fun hg=>⟨⟨hg,trivial⟩,trivial⟩) (B0.lenA _) (a1' rfl (pA' rfl (po' rfl (an' (n' (ci' rfl hh (fun hh=>?_) (fun hh=>?_)))))))))
   ·cases hh
    exact t' rfl (re' (rq rfl))
   exact sk' (S' (t' rfl (bk' (fq (ih2 _ _ _ _ _ hh) rfl))))
  cases hh
  exact ex' (t' rfl (re' (rq rfl)))
 ·intro g0 g1 g2 ih0 ih1 ih2 l x1 i1 k res hh
  refine X0.unroll (S' (p' 3 rfl (qe' rfl trivial (A0.lenA _) (e' rfl (ci' rfl hh (fun hh=>?_) (fun hh=>?_))))))
  ·obtain ⟨x14,hx14,hh⟩:=bs' hh
   obtain ⟨x15,hx15,hh⟩:=bs' hh
   refine sk' (S' (bk' (p' 3 rfl (i' rfl (Z0 hx14) (A0.idx hx14) rfl (q' rfl (cq (Ai hx15) rfl (e' rfl (ci' rfl hh (fun hh=>?_) (fun hh=>?_)))))))))
   ·cases hh
    exact t' rfl (re' (rq rfl))
   exact sk' (T' rfl (lq (ih2 _ _ _ _ _ hh) rfl))
  obtain ⟨x16,hx16,hh⟩:=bs' hh
  obtain ⟨x17,hx17,hh⟩:=bs' hh
  refine ex' (sg' 10 rfl (G' 2 rfl (AG.c rfl rfl (fun _=>trivial) (fun _=>ih0 _ _ hx16) (G' 3 rfl (a1' rfl (AG.c rfl rfl (fun hg=>⟨hg,trivial⟩) (fun hw=>ih0 _ _ (V1 hw hx17)) (a1' rfl (po' rfl (an' (n' (ci' rfl hh (fun hh=>?_) (fun hh=>?_))))))))))))
  ·cases hh
   exact t' rfl (re' (rq rfl))
  exact sk' (T' rfl (lq (ih1 _ _ _ hh) rfl))
theorem Zs {l res}(hh:N8 l=some res):Ju l res:=(T14).1 _ _ hh
mutual
def Va (l:List C0):Option Bool:=
 Oc l 0
 partial_fixpoint
def Oc (l:List C0)(i:Int):Option Bool:=
 if (decide (i < ((l).length:Int)))=true then
  idx l i>>=fun x1=>
  Zi x1.Kind>>=fun x2=>
  (if (!(!x2))=true then Jc x1.TypeV else some default)>>=fun x3=>
  if (bif (!x2) then true else (!x3))=true then
   some false
  else
   Ff x1.Kind>>=fun x4=>
   (if x4=true then X5 x1.Value else some default)>>=fun x5=>
   (if (!(bif x4 then (!x5) else false))=true then Ff x1.Kind else some default)>>=fun x6=>
   (if ((!(bif x4 then (!x5) else false))&&(!x6))=true then Dc x1.Value else some default)>>=fun x7=>
   if (bif (bif (bif x4 then (!x5) else false) then true else (bif (!x6) then (!x7) else false)) then true else (bif (x1.Kind != 4) then (x1.Init != 0) else false))=true then
    some false
   else
    if (bif (x1.Kind != 6) then (bif (bif (((x1.Params).length:Int) != 0) then true else (((x1.Vars).length:Int) != 0)) then true else (((x1.Body).length:Int) != 0)) else false)=true then
     some false
    else
     A7 l x1 i 0
 else
  some true
 partial_fixpoint
def A7 (l:List C0)(x1:C0)(i1:Int)(k:Int):Option Bool:=
 if (decide (k < ((x1.Params).length:Int)))=true then
  idx x1.Params k>>=fun x8=>
  (if (!(x8.Kind != 4))=true then idx x1.Params k else some default)>>=fun x9=>
  if (bif (x8.Kind != 4) then true else (x9.Init != 0))=true then
   some false
  else
   A7 l x1 i1 (IntKind.i64.wrap (k+1))
 else
  B7 l x1 i1 0
 partial_fixpoint
def B7 (l:List C0)(x1:C0)(i2:Int)(k1:Int):Option Bool:=
 if (decide (k1 < ((x1.Vars).length:Int)))=true then
  idx x1.Vars k1>>=fun x10=>
  if (x10.Kind != 4)=true then
   some false
  else
   B7 l x1 i2 (IntKind.i64.wrap (k1+1))
 else
  Va x1.Params>>=fun x11=>
  (if (!(!x11))=true then Va x1.Vars else some default)>>=fun x12=>
  (if (!(bif (!x11) then true else (!x12)))=true then N8 x1.Body else some default)>>=fun x13=>
  if (bif (bif (!x11) then true else (!x12)) then true else (!x13))=true then
   some false
  else
   Oc l (IntKind.i64.wrap (i2+1))
 partial_fixpoint
end
abbrev Ku (l:List C0)(res:Bool):Prop:=P0 C 94 [.d (.sl (C0.rows l))] [] (Ret [] (.d (.bool res)))
abbrev G12 (l:List C0)(i:Int)(res:Bool):Prop:=LM C 132 0 Tryz.f94 [1,0,1,4] [(0,.d (.sl (C0.rows l))),(3,.d (.int .i64 i))] [] (Ret [] (.d (.bool res)))
abbrev H12 (l:List C0)(x1:C0)(i1:Int)(k:Int)(res:Bool):Prop:=LM C 132 0 Tryz.f94 [1,0,1,4,5,1,0,4,1,1,1,1,0,1,4] [(0,.d (.sl (C0.rows l))),(3,.d (.int .i64 i1)),(4,.ref 0 0),(5,.d (.int .i64 k))] [.row (C0.cells x1) 128] (Ret [] (.d (.bool res)))
abbrev I12 (l:List C0)(x1:C0)(i2:Int)(k1:Int)(res:Bool):Prop:=LM C 132 0 Tryz.f94 [1,0,1,4,5,1,0,4,1,1,1,1,1,0,1,4] [(0,.d (.sl (C0.rows l))),(3,.d (.int .i64 i2)),(4,.ref 0 0),(6,.d (.int .i64 k1))] [.row (C0.cells x1) 128] (Ret [] (.d (.bool res)))
theorem U14:(∀ l res,Va l=some res→Ku l res)∧(∀ l i res,Oc l i=some res→G12 l i res)∧(∀ l x1 i1 k res,A7 l x1 i1 k=some res→H12 l x1 i1 k res)∧(∀ l x1 i2 k1 res,B7 l x1 i2 k1=some res→I12 l x1 i2 k1 res):=by
 refine Va.mutual_partial_correctness _ _ _ _ ?_ ?_ ?_ ?_
 ·intro g1 ih1 l res hh
  exact P0.intro hC Tryz.func94 rfl rfl rfl (t' rfl (S' (t' rfl (bk' (fq (ih1 _ _ _ hh) rfl)))))
 ·intro g2 ih2 l i res hh
  refine X0.unroll (S' (p' 2 rfl (qe' rfl trivial (C0.lenA _) (e' rfl (ci' rfl hh (fun hh=>?_) (fun hh=>?_))))))
  ·obtain ⟨x1,hx1,hh⟩:=bs' hh
   obtain ⟨x2,hx2,hh⟩:=bs' hh
   obtain ⟨x3,hx3,hh⟩:=bs' hh
   refine sk' (S' (bk' (p' 2 rfl (i' rfl (Z0 hx1) (C0.idx hx1) rfl (q' rfl (F0.nf hC rfl (F0.s hC rfl (n' (S' (sg' 10 rfl (G' 2 rfl (AG.c rfl rfl (fun _=>trivial) (fun _=>Gu hx2) (G' 3 rfl ?_)))))))))))))
   refine a1' rfl (AG.c rfl rfl (fun hg=>⟨hg,trivial⟩) (fun hw=>B18 (V1 hw hx3)) (a1' rfl (po' rfl (an' (n' (ci' rfl hh (fun hh=>?_) (fun hh=>?_)))))))
   ·cases hh
    exact t' rfl (re' (rq rfl))
   obtain ⟨x4,hx4,hh⟩:=bs' hh
   obtain ⟨x5,hx5,hh⟩:=bs' hh
   obtain ⟨x6,hx6,hh⟩:=bs' hh
   obtain ⟨x7,hx7,hh⟩:=bs' hh
   refine sk' (S' (sg' 31 rfl (G' 2 rfl (AG.c rfl rfl (fun _=>trivial) (fun _=>Nl hx4) (G' 2 rfl (a1' rfl (AG.c rfl rfl (fun hg=>⟨hg,trivial⟩) (fun hw=>Ai (V1 hw hx5)) (a1' rfl (pa' rfl (G' 2 rfl (a1' rfl (AG.c rfl rfl (fun hg=>⟨hg,trivial⟩) (fun hw=>Nl (V1 hw hx6)) (a1' rfl ?_)))))))))))))
   refine a1' rfl (a0' rfl (a1' rfl (AG.c rfl rfl (fun hg=>⟨hg,trivial⟩) (fun hw=>Zh (V1 hw hx7)) (a1' rfl (pA' rfl (po' rfl (G' 2 rfl (a1' rfl (a1' rfl (a1' rfl (a0' rfl (a1' rfl (a1' rfl ?_)))))))))))))
   refine pA' rfl (po' rfl (an' (n' (ci' rfl hh (fun hh=>?_) (fun hh=>?_)))))
   ·cases hh
    exact t' rfl (re' (rq rfl))
   refine sk' (S' (sg' 21 rfl (G' 5 rfl (a1' rfl (AG.qe hC rfl (fun hg=>⟨⟨hg,trivial⟩,trivial⟩) (C0.lenA _) (a1' rfl (a1' rfl (a0' rfl (a1' rfl (AG.qe hC rfl (fun hg=>⟨⟨hg,trivial⟩,trivial⟩) (C0.lenA _) (a1' rfl (pO' rfl (a1' rfl ?_)))))))))))))
   refine a0' rfl (a1' rfl (AG.qe hC rfl (fun hg=>⟨⟨hg,trivial⟩,trivial⟩) (B0.lenA _) (a1' rfl (pO' rfl (pa' rfl (an' (n' (ci' rfl hh (fun hh=>?_) (fun hh=>?_)))))))))
   ·cases hh
    exact t' rfl (re' (rq rfl))
   exact sk' (S' (t' rfl (bk' (fq (ih2 _ _ _ _ _ hh) rfl))))
  cases hh
  exact ex' (t' rfl (re' (rq rfl)))
 ·intro g2 g3 ih2 ih3 l x1 i1 k res hh
  refine X0.unroll (S' (p' 3 rfl (qe' rfl trivial (C0.lenA _) (e' rfl (ci' rfl hh (fun hh=>?_) (fun hh=>?_))))))
  ·obtain ⟨x8,hx8,hh⟩:=bs' hh
   obtain ⟨x9,hx9,hh⟩:=bs' hh
   refine sk' (S' (bk' (sg' 16 rfl (G' 3 rfl (AG.i hC rfl rfl (fun _=>trivial) (fun hw=>⟨Z0 hx8,C0.idx hx8,rfl⟩) (G' 5 rfl (a1' rfl (a0' rfl (AG.i hC rfl rfl (fun hg=>⟨hg,hg,trivial⟩) (fun hw=>⟨Z0 (V1 hw hx9),C0.idx (V1 hw hx9),rfl⟩) (a1' rfl (a1' rfl (a1' rfl (po' rfl ?_)))))))))))))
   refine an' (n' (ci' rfl hh (fun hh=>?_) (fun hh=>?_)))
   ·cases hh
    exact t' rfl (re' (rq rfl))
   exact sk' (T' rfl (lq (ih2 _ _ _ _ _ hh) rfl))
  exact ex' (S' (t' rfl (bk' (fq (ih3 _ _ _ _ _ hh) rfl))))
 ·intro g0 g1 g3 ih0 ih1 ih3 l x1 i2 k1 res hh
  refine X0.unroll (S' (p' 3 rfl (qe' rfl trivial (C0.lenA _) (e' rfl (ci' rfl hh (fun hh=>?_) (fun hh=>?_))))))
  ·obtain ⟨x10,hx10,hh⟩:=bs' hh
   refine sk' (S' (bk' (p' 3 rfl (i' rfl (Z0 hx10) (C0.idx hx10) rfl (e' rfl (ci' rfl hh (fun hh=>?_) (fun hh=>?_)))))))
   ·cases hh
    exact t' rfl (re' (rq rfl))
   exact sk' (T' rfl (lq (ih3 _ _ _ _ _ hh) rfl))
  obtain ⟨x11,hx11,hh⟩:=bs' hh
  obtain ⟨x12,hx12,hh⟩:=bs' hh
  obtain ⟨x13,hx13,hh⟩:=bs' hh
  refine ex' (sg' 16 rfl (G' 2 rfl (AG.c rfl rfl (fun _=>trivial) (fun _=>ih0 _ _ hx11) (G' 3 rfl (a1' rfl (AG.c rfl rfl (fun hg=>⟨hg,trivial⟩) (fun hw=>ih0 _ _ (V1 hw hx12)) (a1' rfl (po' rfl (G' 2 rfl (a1' rfl (AG.c rfl rfl (fun hg=>⟨hg,trivial⟩) (fun hw=>Zs (V1 hw hx13)) (a1' rfl (po' rfl ?_)))))))))))))
  refine an' (n' (ci' rfl hh (fun hh=>?_) (fun hh=>?_)))
  ·cases hh
   exact t' rfl (re' (rq rfl))
  exact sk' (T' rfl (lq (ih1 _ _ _ hh) rfl))
theorem I16 {l res}(hh:Va l=some res):Ku l res:=(U14).1 _ _ hh
mutual
def L7 (l:List B0):Option Bool:=
 Ab l 0
 partial_fixpoint
def Ab (l:List B0)(i:Int):Option Bool:=
 if (decide (i < ((l).length:Int)))=true then
  idx l i>>=fun x1=>
  Aj x1.Verb>>=fun x2=>
  (if x2=true then Ad x1.Name else some default)>>=fun x3=>
  (if (!(bif x2 then (!x3) else false))=true then G5 x1.Place else some default)>>=fun x4=>
  (if (!(bif (bif x2 then (!x3) else false) then true else (!x4)))=true then G5 x1.Value else some default)>>=fun x5=>
  (if (!(bif (bif (bif x2 then (!x3) else false) then true else (!x4)) then true else (!x5)))=true then L7 x1.Then else some default)>>=fun x6=>
  (if (!(bif (bif (bif (bif x2 then (!x3) else false) then true else (!x4)) then true else (!x5)) then true else (!x6)))=true then L7 x1.Else else some default)>>=fun x7=>
  if (bif (bif (bif (bif (bif x2 then (!x3) else false) then true else (!x4)) then true else (!x5)) then true else (!x6)) then true else (!x7))=true then
   some false
  else
   Wd l x1 i 0
 else
  some true
 partial_fixpoint
def Wd (l:List B0)(x1:B0)(i1:Int)(k:Int):Option Bool:=
 if (decide (k < ((x1.Args).length:Int)))=true then
  idx x1.Args k>>=fun x8=>
  G5 x8>>=fun x9=>
  if (!x9)=true then
   some false
  else
   Wd l x1 i1 (IntKind.i64.wrap (k+1))
 else
  Ab l (IntKind.i64.wrap (i1+1))
 partial_fixpoint
end
abbrev Bt (l:List B0)(res:Bool):Prop:=P0 C 97 [.d (.sl (B0.rows l))] [] (Ret [] (.d (.bool res)))
abbrev K10 (l:List B0)(i:Int)(res:Bool):Prop:=LM C 63 0 Tryz.f97 [1,0,1,4] [(0,.d (.sl (B0.rows l))),(3,.d (.int .i64 i))] [] (Ret [] (.d (.bool res)))
abbrev L10 (l:List B0)(x1:B0)(i1:Int)(k:Int)(res:Bool):Prop:=LM C 63 0 Tryz.f97 [1,0,1,4,5,1,0,4,1,1,1,4] [(0,.d (.sl (B0.rows l))),(3,.d (.int .i64 i1)),(4,.ref 0 0),(5,.d (.int .i64 k))] [.row (B0.cells x1) 144] (Ret [] (.d (.bool res)))
theorem J12:(∀ l res,L7 l=some res→Bt l res)∧(∀ l i res,Ab l i=some res→K10 l i res)∧(∀ l x1 i1 k res,Wd l x1 i1 k=some res→L10 l x1 i1 k res):=by
 refine L7.mutual_partial_correctness _ _ _ ?_ ?_ ?_
 ·intro g1 ih1 l res hh
  exact P0.intro hC Tryz.func97 rfl rfl rfl (t' rfl (S' (t' rfl (bk' (fq (ih1 _ _ _ hh) rfl)))))
 ·intro g0 g2 ih0 ih2 l i res hh
  refine X0.unroll (S' (p' 2 rfl (qe' rfl trivial (B0.lenA _) (e' rfl (ci' rfl hh (fun hh=>?_) (fun hh=>?_))))))
  ·obtain ⟨x1,hx1,hh⟩:=bs' hh
   obtain ⟨x2,hx2,hh⟩:=bs' hh
   obtain ⟨x3,hx3,hh⟩:=bs' hh
   obtain ⟨x4,hx4,hh⟩:=bs' hh
   obtain ⟨x5,hx5,hh⟩:=bs' hh
   obtain ⟨x6,hx6,hh⟩:=bs' hh
   obtain ⟨x7,hx7,hh⟩:=bs' hh
   refine sk' (S' (bk' (p' 2 rfl (i' rfl (Z0 hx1) (B0.idx hx1) rfl (q' rfl (F0.nf hC rfl (F0.s hC rfl (n' (S' (sg' 33 rfl (G' 2 rfl (AG.c rfl rfl (fun _=>trivial) (fun _=>Iu hx2) (G' 2 rfl ?_)))))))))))))
   refine a1' rfl (AG.c rfl rfl (fun hg=>⟨hg,trivial⟩) (fun hw=>Kh (V1 hw hx3)) (a1' rfl (pa' rfl (G' 2 rfl (a1' rfl (AG.c rfl rfl (fun hg=>⟨hg,trivial⟩) (fun hw=>Lh (V1 hw hx4)) (a1' rfl (po' rfl (G' 2 rfl (a1' rfl (AG.c rfl rfl (fun hg=>⟨hg,trivial⟩) (fun hw=>Lh (V1 hw hx5)) (a1' rfl (po' rfl ?_)))))))))))))
   refine G' 2 rfl (a1' rfl (AG.c rfl rfl (fun hg=>⟨hg,trivial⟩) (fun hw=>ih0 _ _ (V1 hw hx6)) (a1' rfl (po' rfl (G' 2 rfl (a1' rfl (AG.c rfl rfl (fun hg=>⟨hg,trivial⟩) (fun hw=>ih0 _ _ (V1 hw hx7)) (a1' rfl (po' rfl (an' (n' (ci' rfl hh (fun hh=>?_) (fun hh=>?_)))))))))))))
   ·cases hh
    exact t' rfl (re' (rq rfl))
   exact sk' (t' rfl (bk' (fq (ih2 _ _ _ _ _ hh) rfl)))
  cases hh
  exact ex' (t' rfl (re' (rq rfl)))
 ·intro g1 g2 ih1 ih2 l x1 i1 k res hh
  refine X0.unroll (S' (p' 3 rfl (qe' rfl trivial (A0.lenA _) (e' rfl (ci' rfl hh (fun hh=>?_) (fun hh=>?_))))))
  ·obtain ⟨x8,hx8,hh⟩:=bs' hh
   obtain ⟨x9,hx9,hh⟩:=bs' hh
   refine sk' (S' (bk' (p' 3 rfl (i' rfl (Z0 hx8) (A0.idx hx8) rfl (q' rfl (cq (Lh hx9) rfl (e' rfl (ci' rfl hh (fun hh=>?_) (fun hh=>?_)))))))))
   ·cases hh
    exact t' rfl (re' (rq rfl))
   exact sk' (T' rfl (lq (ih2 _ _ _ _ _ hh) rfl))
  exact ex' (T' rfl (lq (ih1 _ _ _ hh) rfl))
theorem Kq {l res}(hh:L7 l=some res):Bt l res:=(J12).1 _ _ hh
mutual
def L9 (l:List C0):Option Bool:=
 Bb l 0
 partial_fixpoint
def Bb (l:List C0)(i:Int):Option Bool:=
 if (decide (i < ((l).length:Int)))=true then
  idx l i>>=fun x1=>
  Ad x1.Name>>=fun x2=>
  (if (!(!x2))=true then Sa x1.TypeV else some default)>>=fun x3=>
  (if (!(bif (!x2) then true else (!x3)))=true then G5 x1.Value else some default)>>=fun x4=>
  (if (!(bif (bif (!x2) then true else (!x3)) then true else (!x4)))=true then L9 x1.Params else some default)>>=fun x5=>
  (if (!(bif (bif (bif (!x2) then true else (!x3)) then true else (!x4)) then true else (!x5)))=true then L9 x1.Vars else some default)>>=fun x6=>
  (if (!(bif (bif (bif (bif (!x2) then true else (!x3)) then true else (!x4)) then true else (!x5)) then true else (!x6)))=true then L7 x1.Body else some default)>>=fun x7=>
  if (bif (bif (bif (bif (bif (!x2) then true else (!x3)) then true else (!x4)) then true else (!x5)) then true else (!x6)) then true else (!x7))=true then
   some false
  else
   Bb l (IntKind.i64.wrap (i+1))
 else
  some true
 partial_fixpoint
end
abbrev Ct (l:List C0)(res:Bool):Prop:=P0 C 96 [.d (.sl (C0.rows l))] [] (Ret [] (.d (.bool res)))
abbrev M10 (l:List C0)(i:Int)(res:Bool):Prop:=LM C 49 0 Tryz.f96 [1,0,1,4] [(0,.d (.sl (C0.rows l))),(3,.d (.int .i64 i))] [] (Ret [] (.d (.bool res)))
theorem K12:(∀ l res,L9 l=some res→Ct l res)∧(∀ l i res,Bb l i=some res→M10 l i res):=by
 refine L9.mutual_partial_correctness _ _ ?_ ?_
 ·intro g1 ih1 l res hh
  exact P0.intro hC Tryz.func96 rfl rfl rfl (t' rfl (S' (t' rfl (bk' (fq (ih1 _ _ _ hh) rfl)))))
 ·intro g0 g1 ih0 ih1 l i res hh
  refine X0.unroll (S' (p' 2 rfl (qe' rfl trivial (C0.lenA _) (e' rfl (ci' rfl hh (fun hh=>?_) (fun hh=>?_))))))
  ·obtain ⟨x1,hx1,hh⟩:=bs' hh
   obtain ⟨x2,hx2,hh⟩:=bs' hh
   obtain ⟨x3,hx3,hh⟩:=bs' hh
   obtain ⟨x4,hx4,hh⟩:=bs' hh
   obtain ⟨x5,hx5,hh⟩:=bs' hh
   obtain ⟨x6,hx6,hh⟩:=bs' hh
   obtain ⟨x7,hx7,hh⟩:=bs' hh
   refine sk' (S' (bk' (p' 2 rfl (i' rfl (Z0 hx1) (C0.idx hx1) rfl (q' rfl (F0.nf hC rfl (F0.s hC rfl (n' (sg' 34 rfl (G' 2 rfl (AG.c rfl rfl (fun _=>trivial) (fun _=>Kh hx2) (G' 3 rfl (a1' rfl ?_)))))))))))))
   refine AG.c rfl rfl (fun hg=>⟨hg,trivial⟩) (fun hw=>A16 (V1 hw hx3)) (a1' rfl (po' rfl (G' 2 rfl (a1' rfl (AG.c rfl rfl (fun hg=>⟨hg,trivial⟩) (fun hw=>Lh (V1 hw hx4)) (a1' rfl (po' rfl (G' 2 rfl (a1' rfl (AG.c rfl rfl (fun hg=>⟨hg,trivial⟩) (fun hw=>ih0 _ _ (V1 hw hx5)) (a1' rfl (po' rfl (G' 2 rfl ?_)))))))))))))
   refine a1' rfl (AG.c rfl rfl (fun hg=>⟨hg,trivial⟩) (fun hw=>ih0 _ _ (V1 hw hx6)) (a1' rfl (po' rfl (G' 2 rfl (a1' rfl (AG.c rfl rfl (fun hg=>⟨hg,trivial⟩) (fun hw=>Kq (V1 hw hx7)) (a1' rfl (po' rfl (an' (n' (ci' rfl hh (fun hh=>?_) (fun hh=>?_))))))))))))
   ·cases hh
    exact t' rfl (re' (rq rfl))
   exact sk' (T' rfl (lq (ih1 _ _ _ hh) rfl))
  cases hh
  exact ex' (t' rfl (re' (rq rfl)))
theorem V14 {l res}(hh:L9 l=some res):Ct l res:=(K12).1 _ _ hh
def E6 (s:B0)(k:Int):Option Bool:=
 if (decide (k < ((s.Numbers).length:Int)))=true then
  idx s.Numbers k>>=fun x3=>
  (if (!(decide (x3 < 0)))=true then idx s.Numbers k else some default)>>=fun x4=>
  (if ((!(bif (decide (x3 < 0)) then true else (decide (x4 > 1048576))))&&(decide (k > 0)))=true then idx s.Numbers k else some default)>>=fun x5=>
  (if ((!(bif (decide (x3 < 0)) then true else (decide (x4 > 1048576))))&&(decide (k > 0)))=true then idx s.Numbers (IntKind.i64.wrap (k - 1)) else some default)>>=fun x6=>
  if (bif (bif (decide (x3 < 0)) then true else (decide (x4 > 1048576))) then true else (bif (decide (k > 0)) then (decide (x5≤x6)) else false))=true then
   some false
  else
   E6 s (IntKind.i64.wrap (k+1))
 else
  some true
 partial_fixpoint
abbrev An (s:B0)(k:Int)(res:Bool):Prop:=LM C 105 0 Tryz.f158 [1,1,1,1,0,1,2,1,1,4] [(1,.ref 0 0),(3,.d (.int .i64 k))] [.row (B0.cells s) 144] (Ret [] (.d (.bool res)))
theorem Rw (s:B0):(∀ k res,E6 s k=some res→An s k res):=by
 refine E6.partial_correctness s _ ?_
 ·intro g0 ih0 k res hh
  refine X0.unroll (S' (p' 3 rfl (qe' rfl trivial (ei64.lenA _) (e' rfl (ci' rfl hh (fun hh=>?_) (fun hh=>?_))))))
  ·obtain ⟨x3,hx3,hh⟩:=bs' hh
   obtain ⟨x4,hx4,hh⟩:=bs' hh
   obtain ⟨x5,hx5,hh⟩:=bs' hh
   obtain ⟨x6,hx6,hh⟩:=bs' hh
   refine sk' (S' (bk' (S' (AEx.drawG hC 32 rfl rfl rfl (G' 3 rfl (AG.i hC rfl rfl (fun _=>trivial) (fun hw=>⟨Z0 hx3,ei64.idx hx3,rfl⟩) (G' 4 rfl (a1' rfl (a0' rfl (AG.i hC rfl rfl (fun hg=>⟨hg,hg,trivial⟩) (fun hw=>⟨Z0 (V1 hw hx4),ei64.idx (V1 hw hx4),rfl⟩) (a1' rfl (a1' rfl (po' rfl ?_)))))))))))))
   refine G' 2 rfl (a1' rfl (a1' rfl (a0' rfl (a1' rfl (a0' rfl (AG.i hC rfl rfl (fun hg=>⟨hg,hg,trivial⟩) (fun hw=>⟨Z0 (V1 hw hx5),ei64.idx (V1 hw hx5),rfl⟩) (a1' rfl (a0' rfl (a1' rfl (a0' rfl (a1' rfl (AG.i hC rfl rfl (fun hg=>⟨hg,hg,trivial⟩) (fun hw=>⟨Z0 (V1 hw hx6),ei64.idx (V1 hw hx6),rfl⟩) (a1' rfl ?_)))))))))))))
   refine a2' rfl (pA' rfl (po' rfl (an' (n' (ci' rfl hh (fun hh=>?_) (fun hh=>?_))))))
   ·cases hh
    exact t' rfl (re' (rq rfl))
   exact sk' (T' rfl (lq (ih0 _ _ hh) rfl))
  cases hh
  exact ex' (t' rfl (re' (rq rfl)))
theorem Qx {s k res}(hh:E6 s k=some res):An s k res:=(Rw s) _ _ hh
def Tf (s:B0):Option Bool:=
 if (s.Verb == 4)=true then
  some (bif (decide (s.NV≥0)) then (decide (s.NV≤1048576)) else false)
 else
  if (s.Verb == 6)=true then
   some (bif (decide (s.NV≥0)) then (decide (s.NV≤4096)) else false)
  else
   if (s.Verb == 7)=true then
    Te s.Low>>=fun x1=>
    (if x1=true then Te s.High else some default)>>=fun x2=>
    some (bif (bif (bif x1 then x2 else false) then (decide (s.Low≤s.High)) else false) then (decide ((IntKind.i64.wrap ((IntKind.i64.wrap (s.High - s.Low))+1))≤4096)) else false)
   else
    if (s.Verb == 8)=true then
     if (bif (decide (((s.Numbers).length:Int) < 1)) then true else (decide (((s.Numbers).length:Int) > 32)))=true then
      some false
     else
      E6 s 0
    else
     some true
theorem L12 {s res}(hh:Tf s=some res):P0 C 158 [.agg (B0.cells s)] [] (Ret [] (.d (.bool res))):=by
 unfold Tf at hh
 refine P0.intro hC Tryz.func158 rfl rfl rfl (s' rfl rfl (F0.n hC rfl (e' rfl (S' (t' rfl (ci' rfl hh (fun hh=>?_) (fun hh=>?_)))))))
 ·cases hh
  exact sg' 9 rfl (G' 5 rfl (a1' rfl (a1' rfl (pa' rfl (a0' rfl (an' (n' (re' (rq rfl)))))))))
 refine sk' (S' (t' rfl (ci' rfl hh (fun hh=>?_) (fun hh=>?_))))
 ·cases hh
  exact sg' 9 rfl (G' 5 rfl (a1' rfl (a1' rfl (pa' rfl (a0' rfl (an' (n' (re' (rq rfl)))))))))
 refine sk' (S' (t' rfl (ci' rfl hh (fun hh=>?_) (fun hh=>?_))))
 ·obtain ⟨x1,hx1,hh⟩:=bs' hh
  obtain ⟨x2,hx2,hh⟩:=bs' hh
  cases hh
  refine sg' 25 rfl (G' 2 rfl (AG.c rfl rfl (fun _=>trivial) (fun _=>Mh hx1) (G' 2 rfl (a1' rfl (AG.c rfl rfl (fun hg=>⟨hg,trivial⟩) (fun hw=>Mh (V1 hw hx2)) (pa' rfl (G' 2 rfl (a1' rfl (a0' rfl (a1' rfl (a2' rfl (pa' rfl (G' 2 rfl ?_)))))))))))))
  exact a1' rfl (a0' rfl (a1' rfl (a2' rfl (a1' rfl (a1' rfl (pa' rfl (a0' rfl (an' (n' (re' (rq rfl)))))))))))
 refine sk' (S' (t' rfl (ci' rfl hh (fun hh=>?_) (fun hh=>?_))))
 ·refine S' (sg' 10 rfl (G' 2 rfl (AG.qe hC rfl (fun hg=>⟨trivial,trivial⟩) (ei64.lenA _) (G' 3 rfl (a1' rfl (AG.qe hC rfl (fun hg=>⟨⟨hg,trivial⟩,trivial⟩) (ei64.lenA _) (a1' rfl (po' rfl (an' (n' (ci' rfl hh (fun hh=>?_) (fun hh=>?_))))))))))))
  ·cases hh
   exact t' rfl (re' (rq rfl))
  exact sk' (t' rfl (bk' (fq (Qx hh) rfl)))
 cases hh
 exact sk' (t' rfl (re' (rq rfl)))
end Go.Proofs.YtmnhfbekncjnfaaGreatDoor

