/- A part of the proof of SyntaxRename. -/
import Derived.Test.YtbmlpamppbcdeaaGreatDoorDgA
import Derived.Test.YtbmlpamppbcdeaaGreatDoorAmB
set_option maxRecDepth 100000
set_option maxHeartbeats 4000000
set_option synthInstance.maxSize 20000
set_option linter.unusedVariables false
namespace Go.Proofs.YtbmlpamppbcdeaaGreatDoor
open Go.Am
mutual
def M7 (l:List C0):Option Bool:=
 Ya l 0
 partial_fixpoint
def Ya (l:List C0)(i:Int):Option Bool:=
 if (decide (i < ((l).length:Int)))=true then
  idx l i>>=fun x1=>
  Hg x1.Verb>>=fun x2=>
  (if x2=true then T7 x1.Name else some default)>>=fun x3=>
  (if (!(bif x2 then (!x3) else false))=true then X4 x1.Place else some default)>>=fun x4=>
  (if (!(bif (bif x2 then (!x3) else false) then true else (!x4)))=true then X4 x1.Value else some default)>>=fun x5=>
  (if (!(bif (bif (bif x2 then (!x3) else false) then true else (!x4)) then true else (!x5)))=true then M7 x1.Then else some default)>>=fun x6=>
  (if (!(bif (bif (bif (bif x2 then (!x3) else false) then true else (!x4)) then true else (!x5)) then true else (!x6)))=true then M7 x1.Else else some default)>>=fun x7=>
  if (bif (bif (bif (bif (bif x2 then (!x3) else false) then true else (!x4)) then true else (!x5)) then true else (!x6)) then true else (!x7))=true then
   some false
  else
   Wf l x1 i 0
 else
  some true
 partial_fixpoint
def Wf (l:List C0)(x1:C0)(i1:Int)(k:Int):Option Bool:=
 if (decide (k < ((x1.Args).length:Int)))=true then
  idx x1.Args k>>=fun x8=>
  X4 x8>>=fun x9=>
  if (!x9)=true then
   some false
  else
   Wf l x1 i1 (IntKind.i64.wrap (k+1))
 else
  Ya l (IntKind.i64.wrap (i1+1))
 partial_fixpoint
end
abbrev Xu (l:List C0)(res:Bool):Prop:=N0 C 98 [.d (.sl (C0.rows l))] [] (Ret [] (.d (.bool res)))
abbrev H13 (l:List C0)(i:Int)(res:Bool):Prop:=LM C 63 0 Tryz.f98 [1,0,1,4] [(0,.d (.sl (C0.rows l))),(3,.d (.int .i64 i))] [] (Ret [] (.d (.bool res)))
abbrev I13 (l:List C0)(x1:C0)(i1:Int)(k:Int)(res:Bool):Prop:=LM C 63 0 Tryz.f98 [1,0,1,4,5,1,0,4,1,1,1,4] [(0,.d (.sl (C0.rows l))),(3,.d (.int .i64 i1)),(4,.ref 0 0),(5,.d (.int .i64 k))] [.row (C0.cells x1) 79] (Ret [] (.d (.bool res)))
theorem M15:(∀ l res,M7 l=some res→Xu l res)∧(∀ l i res,Ya l i=some res→H13 l i res)∧(∀ l x1 i1 k res,Wf l x1 i1 k=some res→I13 l x1 i1 k res):=by
 refine M7.mutual_partial_correctness _ _ _ ?_ ?_ ?_
 ·intro g1 ih1 l res hh
  exact N0.intro hC Tryz.func98 rfl rfl rfl (t' rfl (S' (t' rfl (bk' (fw' (ih1 _ _ _ hh) rfl rfl rfl)))))
 ·intro g0 g2 ih0 ih2 l i res hh
  refine Y0.unroll (S' (p' 2 rfl (qe' rfl trivial (C0.lenA _) (e' rfl (ci' rfl hh (fun hh=>?_) (fun hh=>?_))))))
  ·obtain ⟨x1,hx1,hh⟩:=bs' hh
   obtain ⟨x2,hx2,hh⟩:=bs' hh
   obtain ⟨x3,hx3,hh⟩:=bs' hh
   obtain ⟨x4,hx4,hh⟩:=bs' hh
   obtain ⟨x5,hx5,hh⟩:=bs' hh
   obtain ⟨x6,hx6,hh⟩:=bs' hh
   obtain ⟨x7,hx7,hh⟩:=bs' hh
   refine sk' (S' (bk' (p' 2 rfl (i' rfl (S0 hx1) (C0.idx hx1) rfl (q' rfl (K0.nf hC rfl (K0.s hC rfl (n' (S' (sg' 33 rfl (G' 2 rfl (AG.c rfl rfl (fun _=>trivial) (fun _=>Jl hx2) (G' 2 rfl ?_)))))))))))))
   refine a1' rfl (AG.c rfl rfl (fun hg=>⟨hg,trivial⟩) (fun hw=>Qd (L1 hw hx3)) (a1' rfl (pa' rfl (G' 2 rfl (a1' rfl (AG.c rfl rfl (fun hg=>⟨hg,trivial⟩) (fun hw=>Ik (L1 hw hx4)) (a1' rfl (po' rfl (G' 2 rfl (a1' rfl (AG.c rfl rfl (fun hg=>⟨hg,trivial⟩) (fun hw=>Ik (L1 hw hx5)) (a1' rfl (po' rfl ?_)))))))))))))
   refine G' 2 rfl (a1' rfl (AG.c rfl rfl (fun hg=>⟨hg,trivial⟩) (fun hw=>ih0 _ _ (L1 hw hx6)) (a1' rfl (po' rfl (G' 2 rfl (a1' rfl (AG.c rfl rfl (fun hg=>⟨hg,trivial⟩) (fun hw=>ih0 _ _ (L1 hw hx7)) (a1' rfl (po' rfl (an' (n' (ci' rfl hh (fun hh=>?_) (fun hh=>?_)))))))))))))
   ·cases hh
    exact t' rfl (re' (rt' rfl rfl rfl))
   exact sk' (t' rfl (bk' (fw' (ih2 _ _ _ _ _ hh) rfl rfl rfl)))
  cases hh
  exact ex' (t' rfl (re' (rt' rfl rfl rfl)))
 ·intro g1 g2 ih1 ih2 l x1 i1 k res hh
  refine Y0.unroll (S' (p' 3 rfl (qe' rfl trivial (A0.lenA _) (e' rfl (ci' rfl hh (fun hh=>?_) (fun hh=>?_))))))
  ·obtain ⟨x8,hx8,hh⟩:=bs' hh
   obtain ⟨x9,hx9,hh⟩:=bs' hh
   refine sk' (S' (bk' (p' 3 rfl (i' rfl (S0 hx8) (A0.idx hx8) rfl (q' rfl (c' (Ik hx9) rfl rfl (e' rfl (ci' rfl hh (fun hh=>?_) (fun hh=>?_)))))))))
   ·cases hh
    exact t' rfl (re' (rt' rfl rfl rfl))
   exact sk' (T' rfl (lw' (ih2 _ _ _ _ _ hh) rfl rfl rfl))
  exact ex' (T' rfl (lw' (ih1 _ _ _ hh) rfl rfl rfl))
theorem Vs {l res}(hh:M7 l=some res):Xu l res:=(M15).1 _ _ hh
mutual
def I9 (l:List D0):Option Bool:=
 Za l 0
 partial_fixpoint
def Za (l:List D0)(i:Int):Option Bool:=
 if (decide (i < ((l).length:Int)))=true then
  idx l i>>=fun x1=>
  T7 x1.Name>>=fun x2=>
  (if (!(!x2))=true then Qa x1.TypeV else some default)>>=fun x3=>
  (if (!(bif (!x2) then true else (!x3)))=true then X4 x1.Value else some default)>>=fun x4=>
  (if (!(bif (bif (!x2) then true else (!x3)) then true else (!x4)))=true then I9 x1.Params else some default)>>=fun x5=>
  (if (!(bif (bif (bif (!x2) then true else (!x3)) then true else (!x4)) then true else (!x5)))=true then I9 x1.Vars else some default)>>=fun x6=>
  (if (!(bif (bif (bif (bif (!x2) then true else (!x3)) then true else (!x4)) then true else (!x5)) then true else (!x6)))=true then M7 x1.Body else some default)>>=fun x7=>
  if (bif (bif (bif (bif (bif (!x2) then true else (!x3)) then true else (!x4)) then true else (!x5)) then true else (!x6)) then true else (!x7))=true then
   some false
  else
   Za l (IntKind.i64.wrap (i+1))
 else
  some true
 partial_fixpoint
end
abbrev Yu (l:List D0)(res:Bool):Prop:=N0 C 97 [.d (.sl (D0.rows l))] [] (Ret [] (.d (.bool res)))
abbrev J13 (l:List D0)(i:Int)(res:Bool):Prop:=LM C 49 0 Tryz.f97 [1,0,1,4] [(0,.d (.sl (D0.rows l))),(3,.d (.int .i64 i))] [] (Ret [] (.d (.bool res)))
theorem N15:(∀ l res,I9 l=some res→Yu l res)∧(∀ l i res,Za l i=some res→J13 l i res):=by
 refine I9.mutual_partial_correctness _ _ ?_ ?_
 ·intro g1 ih1 l res hh
  exact N0.intro hC Tryz.func97 rfl rfl rfl (t' rfl (S' (t' rfl (bk' (fw' (ih1 _ _ _ hh) rfl rfl rfl)))))
 ·intro g0 g1 ih0 ih1 l i res hh
  refine Y0.unroll (S' (p' 2 rfl (qe' rfl trivial (D0.lenA _) (e' rfl (ci' rfl hh (fun hh=>?_) (fun hh=>?_))))))
  ·obtain ⟨x1,hx1,hh⟩:=bs' hh
   obtain ⟨x2,hx2,hh⟩:=bs' hh
   obtain ⟨x3,hx3,hh⟩:=bs' hh
   obtain ⟨x4,hx4,hh⟩:=bs' hh
   obtain ⟨x5,hx5,hh⟩:=bs' hh
   obtain ⟨x6,hx6,hh⟩:=bs' hh
   obtain ⟨x7,hx7,hh⟩:=bs' hh
   refine sk' (S' (bk' (p' 2 rfl (i' rfl (S0 hx1) (D0.idx hx1) rfl (q' rfl (K0.nf hC rfl (K0.s hC rfl (n' (sg' 34 rfl (G' 2 rfl (AG.c rfl rfl (fun _=>trivial) (fun _=>Qd hx2) (G' 3 rfl (a1' rfl ?_)))))))))))))
   refine AG.c rfl rfl (fun hg=>⟨hg,trivial⟩) (fun hw=>F19 (L1 hw hx3)) (a1' rfl (po' rfl (G' 2 rfl (a1' rfl (AG.c rfl rfl (fun hg=>⟨hg,trivial⟩) (fun hw=>Ik (L1 hw hx4)) (a1' rfl (po' rfl (G' 2 rfl (a1' rfl (AG.c rfl rfl (fun hg=>⟨hg,trivial⟩) (fun hw=>ih0 _ _ (L1 hw hx5)) (a1' rfl (po' rfl (G' 2 rfl ?_)))))))))))))
   refine a1' rfl (AG.c rfl rfl (fun hg=>⟨hg,trivial⟩) (fun hw=>ih0 _ _ (L1 hw hx6)) (a1' rfl (po' rfl (G' 2 rfl (a1' rfl (AG.c rfl rfl (fun hg=>⟨hg,trivial⟩) (fun hw=>Vs (L1 hw hx7)) (a1' rfl (po' rfl (an' (n' (ci' rfl hh (fun hh=>?_) (fun hh=>?_))))))))))))
   ·cases hh
    exact t' rfl (re' (rt' rfl rfl rfl))
   exact sk' (T' rfl (lw' (ih1 _ _ _ hh) rfl rfl rfl))
  cases hh
  exact ex' (t' rfl (re' (rt' rfl rfl rfl)))
theorem Q17 {l res}(hh:I9 l=some res):Yu l res:=(N15).1 _ _ hh
def Kh (n:Int):Option Bool:=
 some (bif (decide (n≥(-1048576))) then (decide (n≤1048576)) else false)
theorem Jk {n res}(hh:Kh n=some res):N0 C 189 [.d (.int .i64 n)] [] (Ret [] (.d (.bool res))):=by
 unfold Kh at hh
 cases hh
 exact N0.intro hC Tryz.func189 rfl rfl rfl (t' rfl (sg' 7 rfl (G' 4 rfl (a1' rfl (pa' rfl (a0' rfl (an' (n' (re' (rt' rfl rfl rfl))))))))))
mutual
def H8 (t:F0):Option Bool:=
 (if (t.Kind == 1)=true then Kh t.Low else some default)>>=fun x1=>
 (if ((t.Kind == 1)&&(!(!x1)))=true then Kh t.High else some default)>>=fun x2=>
 if (bif (bif (bif (t.Kind == 1) then (bif (bif (!x1) then true else (!x2)) then true else (decide (t.Low > t.High))) else false) then true else (bif (t.Kind == 2) then (bif (decide (t.Size < 1)) then true else (decide (t.Size > 32))) else false)) then true else (decide (((t.Of).length:Int) > 32)))=true then
  some false
 else
  V9 t 0
 partial_fixpoint
def V9 (t:F0)(i:Int):Option Bool:=
 if (decide (i < ((t.Of).length:Int)))=true then
  idx t.Of i>>=fun x3=>
  H8 x3>>=fun x4=>
  if (!x4)=true then
   some false
  else
   V9 t (IntKind.i64.wrap (i+1))
 else
  some true
 partial_fixpoint
end
abbrev Ws (t:F0)(res:Bool):Prop:=N0 C 137 [.agg (F0.cells t)] [] (Ret [] (.d (.bool res)))
abbrev X11 (t:F0)(i:Int)(res:Bool):Prop:=LM C 61 0 Tryz.f137 [1,1,0,1,4] [(1,.ref 0 0),(3,.d (.int .i64 i))] [.row (F0.cells t) 48] (Ret [] (.d (.bool res)))
theorem K13:(∀ t res,H8 t=some res→Ws t res)∧(∀ t i res,V9 t i=some res→X11 t i res):=by
 refine H8.mutual_partial_correctness _ _ ?_ ?_
 ·intro g1 ih1 t res hh
  obtain ⟨x1,hx1,hh⟩:=bs' hh
  obtain ⟨x2,hx2,hh⟩:=bs' hh
  refine N0.intro hC Tryz.func137 rfl rfl rfl (s' rfl rfl (K0.n hC rfl (e' rfl (S' (sg' 43 rfl (G' 5 rfl (a1' rfl (AG.c rfl rfl (fun hg=>⟨hg,trivial⟩) (fun hw=>Jk (L1 hw hx1)) (a1' rfl (a1' rfl (a0' rfl (a1' rfl (AG.c rfl rfl (fun hg=>⟨hg,trivial⟩) (fun hw=>Jk (L1 hw hx2)) ?_)))))))))))))
  refine a1' rfl (pO' rfl (a1' rfl (a0' rfl (a1' rfl (a0' rfl (a1' rfl (a2' rfl (pO' rfl (pa' rfl (G' 2 rfl (a1' rfl (a1' rfl (a1' rfl ?_)))))))))))))
  refine a0' rfl (a1' rfl (a1' rfl (a1' rfl (a0' rfl (a1' rfl (a1' rfl (pO' rfl (pA' rfl (po' rfl (G' 2 rfl (a1' rfl (AG.qe hC rfl (fun hg=>⟨⟨hg,trivial⟩,trivial⟩) (F0.lenA _) (a1' rfl ?_)))))))))))))
  refine po' rfl (an' (n' (ci' rfl hh (fun hh=>?_) (fun hh=>?_))))
  ·cases hh
   exact t' rfl (re' (rt' rfl rfl rfl))
  exact sk' (S' (t' rfl (bk' (fw' (ih1 _ _ _ hh) rfl rfl rfl))))
 ·intro g0 g1 ih0 ih1 t i res hh
  refine Y0.unroll (S' (p' 3 rfl (qe' rfl trivial (F0.lenA _) (e' rfl (ci' rfl hh (fun hh=>?_) (fun hh=>?_))))))
  ·obtain ⟨x3,hx3,hh⟩:=bs' hh
   obtain ⟨x4,hx4,hh⟩:=bs' hh
   refine sk' (S' (bk' (p' 3 rfl (i' rfl (S0 hx3) (F0.idx hx3) rfl (q' rfl (c' (ih0 _ _ hx4) rfl rfl (e' rfl (ci' rfl hh (fun hh=>?_) (fun hh=>?_)))))))))
   ·cases hh
    exact t' rfl (re' (rt' rfl rfl rfl))
   exact sk' (T' rfl (lw' (ih1 _ _ _ hh) rfl rfl rfl))
  cases hh
  exact ex' (t' rfl (re' (rt' rfl rfl rfl)))
theorem O15 {t res}(hh:H8 t=some res):Ws t res:=(K13).1 _ _ hh
mutual
def P3 (e:A0):Option Bool:=
 if (bif (e.Op == 0) then (bif (decide (e.NV < 0)) then true else (decide (e.NV > 1048576))) else false)=true then
  some false
 else
  W9 e 0
 partial_fixpoint
def W9 (e:A0)(i:Int):Option Bool:=
 if (decide (i < ((e.Kids).length:Int)))=true then
  idx e.Kids i>>=fun x1=>
  P3 x1>>=fun x2=>
  if (!x2)=true then
   some false
  else
   W9 e (IntKind.i64.wrap (i+1))
 else
  some true
 partial_fixpoint
end
abbrev Xs (e:A0)(res:Bool):Prop:=N0 C 126 [.agg (A0.cells e)] [] (Ret [] (.d (.bool res)))
abbrev Y11 (e:A0)(i:Int)(res:Bool):Prop:=LM C 31 0 Tryz.f126 [1,1,0,1,4] [(1,.ref 0 0),(3,.d (.int .i64 i))] [.row (A0.cells e) 40] (Ret [] (.d (.bool res)))
theorem L13:(∀ e res,P3 e=some res→Xs e res)∧(∀ e i res,W9 e i=some res→Y11 e i res):=by
 refine P3.mutual_partial_correctness _ _ ?_ ?_
 ·intro g1 ih1 e res hh
  refine N0.intro hC Tryz.func126 rfl rfl rfl (s' rfl rfl (K0.n hC rfl (e' rfl (S' (sg' 13 rfl (G' 5 rfl (a1' rfl (a1' rfl (a1' rfl (a0' rfl (a1' rfl (a1' rfl (pO' rfl ?_)))))))))))))
  refine pa' rfl (an' (n' (ci' rfl hh (fun hh=>?_) (fun hh=>?_))))
  ·cases hh
   exact t' rfl (re' (rt' rfl rfl rfl))
  exact sk' (S' (t' rfl (bk' (fw' (ih1 _ _ _ hh) rfl rfl rfl))))
 ·intro g0 g1 ih0 ih1 e i res hh
  refine Y0.unroll (S' (p' 3 rfl (qe' rfl trivial (A0.lenA _) (e' rfl (ci' rfl hh (fun hh=>?_) (fun hh=>?_))))))
  ·obtain ⟨x1,hx1,hh⟩:=bs' hh
   obtain ⟨x2,hx2,hh⟩:=bs' hh
   refine sk' (S' (bk' (p' 3 rfl (i' rfl (S0 hx1) (A0.idx hx1) rfl (q' rfl (c' (ih0 _ _ hx2) rfl rfl (e' rfl (ci' rfl hh (fun hh=>?_) (fun hh=>?_)))))))))
   ·cases hh
    exact t' rfl (re' (rt' rfl rfl rfl))
   exact sk' (T' rfl (lw' (ih1 _ _ _ hh) rfl rfl rfl))
  cases hh
  exact ex' (t' rfl (re' (rt' rfl rfl rfl)))
theorem Yi {e res}(hh:P3 e=some res):Xs e res:=(L13).1 _ _ hh
def X5 (s:C0)(k:Int):Option Bool:=
 if (decide (k < ((s.Numbers).length:Int)))=true then
  idx s.Numbers k>>=fun x3=>
  (if (!(decide (x3 < 0)))=true then idx s.Numbers k else some default)>>=fun x4=>
  (if ((!(bif (decide (x3 < 0)) then true else (decide (x4 > 1048576))))&&(decide (k > 0)))=true then idx s.Numbers k else some default)>>=fun x5=>
  (if ((!(bif (decide (x3 < 0)) then true else (decide (x4 > 1048576))))&&(decide (k > 0)))=true then idx s.Numbers (IntKind.i64.wrap (k - 1)) else some default)>>=fun x6=>
  if (bif (bif (decide (x3 < 0)) then true else (decide (x4 > 1048576))) then true else (bif (decide (k > 0)) then (decide (x5≤x6)) else false))=true then
   some false
  else
   X5 s (IntKind.i64.wrap (k+1))
 else
  some true
 partial_fixpoint
abbrev Xp (s:C0)(k:Int)(res:Bool):Prop:=LM C 105 0 Tryz.f190 [1,1,1,1,0,1,2,1,1,4] [(1,.ref 0 0),(3,.d (.int .i64 k))] [.row (C0.cells s) 79] (Ret [] (.d (.bool res)))
theorem Kz (s:C0):(∀ k res,X5 s k=some res→Xp s k res):=by
 refine X5.partial_correctness s _ ?_
 ·intro g0 ih0 k res hh
  refine Y0.unroll (S' (p' 3 rfl (qe' rfl trivial (ei64.lenA _) (e' rfl (ci' rfl hh (fun hh=>?_) (fun hh=>?_))))))
  ·obtain ⟨x3,hx3,hh⟩:=bs' hh
   obtain ⟨x4,hx4,hh⟩:=bs' hh
   obtain ⟨x5,hx5,hh⟩:=bs' hh
   obtain ⟨x6,hx6,hh⟩:=bs' hh
   refine sk' (S' (bk' (S' (AEx.drawG hC 32 rfl rfl rfl (G' 3 rfl (AG.i hC rfl rfl (fun _=>trivial) (fun hw=>⟨S0 hx3,ei64.idx hx3,rfl⟩) (G' 4 rfl (a1' rfl (a0' rfl (AG.i hC rfl rfl (fun hg=>⟨hg,hg,trivial⟩) (fun hw=>⟨S0 (L1 hw hx4),ei64.idx (L1 hw hx4),rfl⟩) (a1' rfl (a1' rfl (po' rfl ?_)))))))))))))
   refine G' 2 rfl (a1' rfl (a1' rfl (a0' rfl (a1' rfl (a0' rfl (AG.i hC rfl rfl (fun hg=>⟨hg,hg,trivial⟩) (fun hw=>⟨S0 (L1 hw hx5),ei64.idx (L1 hw hx5),rfl⟩) (a1' rfl (a0' rfl (a1' rfl (a0' rfl (a1' rfl (AG.i hC rfl rfl (fun hg=>⟨hg,hg,trivial⟩) (fun hw=>⟨S0 (L1 hw hx6),ei64.idx (L1 hw hx6),rfl⟩) (a1' rfl ?_)))))))))))))
   refine a2' rfl (pA' rfl (po' rfl (an' (n' (ci' rfl hh (fun hh=>?_) (fun hh=>?_))))))
   ·cases hh
    exact t' rfl (re' (rt' rfl rfl rfl))
   exact sk' (T' rfl (lw' (ih0 _ _ hh) rfl rfl rfl))
  cases hh
  exact ex' (t' rfl (re' (rt' rfl rfl rfl)))
theorem L10 {s k res}(hh:X5 s k=some res):Xp s k res:=(Kz s) _ _ hh
def Li (s:C0):Option Bool:=
 if (s.Verb == 4)=true then
  some (bif (decide (s.NV≥0)) then (decide (s.NV≤1048576)) else false)
 else
  if (s.Verb == 6)=true then
   some (bif (decide (s.NV≥0)) then (decide (s.NV≤4096)) else false)
  else
   if (s.Verb == 7)=true then
    Kh s.Low>>=fun x1=>
    (if x1=true then Kh s.High else some default)>>=fun x2=>
    some (bif (bif (bif x1 then x2 else false) then (decide (s.Low≤s.High)) else false) then (decide ((IntKind.i64.wrap ((IntKind.i64.wrap (s.High - s.Low))+1))≤4096)) else false)
   else
    if (s.Verb == 8)=true then
     if (bif (decide (((s.Numbers).length:Int) < 1)) then true else (decide (((s.Numbers).length:Int) > 32)))=true then
      some false
     else
      X5 s 0
    else
     some true
theorem P15 {s res}(hh:Li s=some res):N0 C 190 [.agg (C0.cells s)] [] (Ret [] (.d (.bool res))):=by
 unfold Li at hh
 refine N0.intro hC Tryz.func190 rfl rfl rfl (s' rfl rfl (K0.n hC rfl (e' rfl (S' (t' rfl (ci' rfl hh (fun hh=>?_) (fun hh=>?_)))))))
 ·cases hh
  exact sg' 9 rfl (G' 5 rfl (a1' rfl (a1' rfl (pa' rfl (a0' rfl (an' (n' (re' (rt' rfl rfl rfl)))))))))
 refine sk' (S' (t' rfl (ci' rfl hh (fun hh=>?_) (fun hh=>?_))))
 ·cases hh
  exact sg' 9 rfl (G' 5 rfl (a1' rfl (a1' rfl (pa' rfl (a0' rfl (an' (n' (re' (rt' rfl rfl rfl)))))))))
 refine sk' (S' (t' rfl (ci' rfl hh (fun hh=>?_) (fun hh=>?_))))
 ·obtain ⟨x1,hx1,hh⟩:=bs' hh
  obtain ⟨x2,hx2,hh⟩:=bs' hh
  cases hh
  refine sg' 25 rfl (G' 2 rfl (AG.c rfl rfl (fun _=>trivial) (fun _=>Jk hx1) (G' 2 rfl (a1' rfl (AG.c rfl rfl (fun hg=>⟨hg,trivial⟩) (fun hw=>Jk (L1 hw hx2)) (pa' rfl (G' 2 rfl (a1' rfl (a0' rfl (a1' rfl (a2' rfl (pa' rfl (G' 2 rfl ?_)))))))))))))
  exact a1' rfl (a0' rfl (a1' rfl (a2' rfl (a1' rfl (a1' rfl (pa' rfl (a0' rfl (an' (n' (re' (rt' rfl rfl rfl)))))))))))
 refine sk' (S' (t' rfl (ci' rfl hh (fun hh=>?_) (fun hh=>?_))))
 ·refine S' (sg' 10 rfl (G' 2 rfl (AG.qe hC rfl (fun hg=>⟨trivial,trivial⟩) (ei64.lenA _) (G' 3 rfl (a1' rfl (AG.qe hC rfl (fun hg=>⟨⟨hg,trivial⟩,trivial⟩) (ei64.lenA _) (a1' rfl (po' rfl (an' (n' (ci' rfl hh (fun hh=>?_) (fun hh=>?_))))))))))))
  ·cases hh
   exact t' rfl (re' (rt' rfl rfl rfl))
  exact sk' (t' rfl (bk' (fw' (L10 hh) rfl rfl rfl)))
 cases hh
 exact sk' (t' rfl (re' (rt' rfl rfl rfl)))
mutual
def Y5 (l:List C0):Option Bool:=
 W8 l 0
 partial_fixpoint
def W8 (l:List C0)(i:Int):Option Bool:=
 if (decide (i < ((l).length:Int)))=true then
  idx l i>>=fun x1=>
  Li x1>>=fun x2=>
  (if (!(!x2))=true then P3 x1.Place else some default)>>=fun x3=>
  (if (!(bif (!x2) then true else (!x3)))=true then P3 x1.Value else some default)>>=fun x4=>
  (if (!(bif (bif (!x2) then true else (!x3)) then true else (!x4)))=true then Y5 x1.Then else some default)>>=fun x5=>
  (if (!(bif (bif (bif (!x2) then true else (!x3)) then true else (!x4)) then true else (!x5)))=true then Y5 x1.Else else some default)>>=fun x6=>
  if (bif (bif (bif (bif (!x2) then true else (!x3)) then true else (!x4)) then true else (!x5)) then true else (!x6))=true then
   some false
  else
   Yc l x1 i 0
 else
  some true
 partial_fixpoint
def Yc (l:List C0)(x1:C0)(i1:Int)(k:Int):Option Bool:=
 if (decide (k < ((x1.Args).length:Int)))=true then
  idx x1.Args k>>=fun x7=>
  P3 x7>>=fun x8=>
  if (!x8)=true then
   some false
  else
   Yc l x1 i1 (IntKind.i64.wrap (k+1))
 else
  W8 l (IntKind.i64.wrap (i1+1))
 partial_fixpoint
end
abbrev Wr (l:List C0)(res:Bool):Prop:=N0 C 100 [.d (.sl (C0.rows l))] [] (Ret [] (.d (.bool res)))
abbrev M10 (l:List C0)(i:Int)(res:Bool):Prop:=LM C 57 0 Tryz.f100 [1,0,1,4] [(0,.d (.sl (C0.rows l))),(3,.d (.int .i64 i))] [] (Ret [] (.d (.bool res)))
abbrev N10 (l:List C0)(x1:C0)(i1:Int)(k:Int)(res:Bool):Prop:=LM C 57 0 Tryz.f100 [1,0,1,4,5,1,0,4,1,1,1,4] [(0,.d (.sl (C0.rows l))),(3,.d (.int .i64 i1)),(4,.ref 0 0),(5,.d (.int .i64 k))] [.row (C0.cells x1) 79] (Ret [] (.d (.bool res)))
theorem Z11:(∀ l res,Y5 l=some res→Wr l res)∧(∀ l i res,W8 l i=some res→M10 l i res)∧(∀ l x1 i1 k res,Yc l x1 i1 k=some res→N10 l x1 i1 k res):=by
 refine Y5.mutual_partial_correctness _ _ _ ?_ ?_ ?_
 ·intro g1 ih1 l res hh
  exact N0.intro hC Tryz.func100 rfl rfl rfl (t' rfl (S' (t' rfl (bk' (fw' (ih1 _ _ _ hh) rfl rfl rfl)))))
 ·intro g0 g2 ih0 ih2 l i res hh
  refine Y0.unroll (S' (p' 2 rfl (qe' rfl trivial (C0.lenA _) (e' rfl (ci' rfl hh (fun hh=>?_) (fun hh=>?_))))))
  ·obtain ⟨x1,hx1,hh⟩:=bs' hh
   obtain ⟨x2,hx2,hh⟩:=bs' hh
   obtain ⟨x3,hx3,hh⟩:=bs' hh
   obtain ⟨x4,hx4,hh⟩:=bs' hh
   obtain ⟨x5,hx5,hh⟩:=bs' hh
   obtain ⟨x6,hx6,hh⟩:=bs' hh
   refine sk' (S' (bk' (p' 2 rfl (i' rfl (S0 hx1) (C0.idx hx1) rfl (q' rfl (K0.nf hC rfl (K0.s hC rfl (n' (S' (sg' 27 rfl (a0' rfl (AG.c rfl rfl (fun _=>trivial) (fun _=>P15 hx2) (G' 3 rfl ?_)))))))))))))
   refine a1' rfl (AG.c rfl rfl (fun hg=>⟨hg,trivial⟩) (fun hw=>Yi (L1 hw hx3)) (a1' rfl (po' rfl (G' 2 rfl (a1' rfl (AG.c rfl rfl (fun hg=>⟨hg,trivial⟩) (fun hw=>Yi (L1 hw hx4)) (a1' rfl (po' rfl (G' 2 rfl (a1' rfl (AG.c rfl rfl (fun hg=>⟨hg,trivial⟩) (fun hw=>ih0 _ _ (L1 hw hx5)) (a1' rfl (po' rfl ?_)))))))))))))
   refine G' 2 rfl (a1' rfl (AG.c rfl rfl (fun hg=>⟨hg,trivial⟩) (fun hw=>ih0 _ _ (L1 hw hx6)) (a1' rfl (po' rfl (an' (n' (ci' rfl hh (fun hh=>?_) (fun hh=>?_))))))))
   ·cases hh
    exact t' rfl (re' (rt' rfl rfl rfl))
   exact sk' (t' rfl (bk' (fw' (ih2 _ _ _ _ _ hh) rfl rfl rfl)))
  cases hh
  exact ex' (t' rfl (re' (rt' rfl rfl rfl)))
 ·intro g1 g2 ih1 ih2 l x1 i1 k res hh
  refine Y0.unroll (S' (p' 3 rfl (qe' rfl trivial (A0.lenA _) (e' rfl (ci' rfl hh (fun hh=>?_) (fun hh=>?_))))))
  ·obtain ⟨x7,hx7,hh⟩:=bs' hh
   obtain ⟨x8,hx8,hh⟩:=bs' hh
   refine sk' (S' (bk' (p' 3 rfl (i' rfl (S0 hx7) (A0.idx hx7) rfl (q' rfl (c' (Yi hx8) rfl rfl (e' rfl (ci' rfl hh (fun hh=>?_) (fun hh=>?_)))))))))
   ·cases hh
    exact t' rfl (re' (rt' rfl rfl rfl))
   exact sk' (T' rfl (lw' (ih2 _ _ _ _ _ hh) rfl rfl rfl))
  exact ex' (T' rfl (lw' (ih1 _ _ _ hh) rfl rfl rfl))
theorem Cr {l res}(hh:Y5 l=some res):Wr l res:=(Z11).1 _ _ hh
mutual
def A7 (l:List D0):Option Bool:=
 X8 l 0
 partial_fixpoint
def X8 (l:List D0)(i:Int):Option Bool:=
 if (decide (i < ((l).length:Int)))=true then
  idx l i>>=fun x1=>
  Kh x1.Init>>=fun x2=>
  if (bif (!x2) then true else (bif (x1.TypeV.Kind == 0) then (bif (decide (x1.Init < 0)) then true else (decide (x1.Init > 1))) else false))=true then
   some false
  else
   H8 x1.TypeV>>=fun x3=>
   (if (!(!x3))=true then P3 x1.Value else some default)>>=fun x4=>
   (if (!(bif (!x3) then true else (!x4)))=true then A7 x1.Params else some default)>>=fun x5=>
   (if (!(bif (bif (!x3) then true else (!x4)) then true else (!x5)))=true then A7 x1.Vars else some default)>>=fun x6=>
   (if (!(bif (bif (bif (!x3) then true else (!x4)) then true else (!x5)) then true else (!x6)))=true then Y5 x1.Body else some default)>>=fun x7=>
   if (bif (bif (bif (bif (!x3) then true else (!x4)) then true else (!x5)) then true else (!x6)) then true else (!x7))=true then
    some false
   else
    X8 l (IntKind.i64.wrap (i+1))
 else
  some true
 partial_fixpoint
end
abbrev Xr (l:List D0)(res:Bool):Prop:=N0 C 99 [.d (.sl (D0.rows l))] [] (Ret [] (.d (.bool res)))
abbrev O10 (l:List D0)(i:Int)(res:Bool):Prop:=LM C 63 0 Tryz.f99 [1,0,1,4] [(0,.d (.sl (D0.rows l))),(3,.d (.int .i64 i))] [] (Ret [] (.d (.bool res)))
theorem A12:(∀ l res,A7 l=some res→Xr l res)∧(∀ l i res,X8 l i=some res→O10 l i res):=by
 refine A7.mutual_partial_correctness _ _ ?_ ?_
 ·intro g1 ih1 l res hh
  exact N0.intro hC Tryz.func99 rfl rfl rfl (t' rfl (S' (t' rfl (bk' (fw' (ih1 _ _ _ hh) rfl rfl rfl)))))
 ·intro g0 g1 ih0 ih1 l i res hh
  refine Y0.unroll (S' (p' 2 rfl (qe' rfl trivial (D0.lenA _) (e' rfl (ci' rfl hh (fun hh=>?_) (fun hh=>?_))))))
  ·obtain ⟨x1,hx1,hh⟩:=bs' hh
   obtain ⟨x2,hx2,hh⟩:=bs' hh
   refine sk' (S' (bk' (p' 2 rfl (i' rfl (S0 hx1) (D0.idx hx1) rfl (q' rfl (K0.nf hC rfl (K0.s hC rfl (n' (S' (sg' 20 rfl (G' 2 rfl (AG.c rfl rfl (fun _=>trivial) (fun _=>Jk hx2) (G' 3 rfl ?_)))))))))))))
   refine a1' rfl (a1' rfl (a1' rfl (a1' rfl (a0' rfl (a1' rfl (a1' rfl (a1' rfl (a0' rfl (a1' rfl (a1' rfl (pO' rfl (pA' rfl (po' rfl ?_)))))))))))))
   refine an' (n' (ci' rfl hh (fun hh=>?_) (fun hh=>?_)))
   ·cases hh
    exact t' rfl (re' (rt' rfl rfl rfl))
   obtain ⟨x3,hx3,hh⟩:=bs' hh
   obtain ⟨x4,hx4,hh⟩:=bs' hh
   obtain ⟨x5,hx5,hh⟩:=bs' hh
   obtain ⟨x6,hx6,hh⟩:=bs' hh
   obtain ⟨x7,hx7,hh⟩:=bs' hh
   refine sk' (sg' 28 rfl (G' 2 rfl (AG.c rfl rfl (fun _=>trivial) (fun _=>O15 hx3) (G' 3 rfl (a1' rfl (AG.c rfl rfl (fun hg=>⟨hg,trivial⟩) (fun hw=>Yi (L1 hw hx4)) (a1' rfl (po' rfl (G' 2 rfl (a1' rfl (AG.c rfl rfl (fun hg=>⟨hg,trivial⟩) (fun hw=>ih0 _ _ (L1 hw hx5)) (a1' rfl (po' rfl ?_)))))))))))))
   refine G' 2 rfl (a1' rfl (AG.c rfl rfl (fun hg=>⟨hg,trivial⟩) (fun hw=>ih0 _ _ (L1 hw hx6)) (a1' rfl (po' rfl (G' 2 rfl (a1' rfl (AG.c rfl rfl (fun hg=>⟨hg,trivial⟩) (fun hw=>Cr (L1 hw hx7)) (a1' rfl (po' rfl (an' (n' (ci' rfl hh (fun hh=>?_) (fun hh=>?_)))))))))))))
   ·cases hh
    exact t' rfl (re' (rt' rfl rfl rfl))
   exact sk' (T' rfl (lw' (ih1 _ _ _ hh) rfl rfl rfl))
  cases hh
  exact ex' (t' rfl (re' (rt' rfl rfl rfl)))
theorem M13 {l res}(hh:A7 l=some res):Xr l res:=(A12).1 _ _ hh
def Dn (s:Q0)(form:Bool)(names:Bool)(numbers:Bool):Option Int:=
 if (bif (decide (s.nodes > 1024)) then true else (decide (s.depth > 12)))=true then
  some 4
 else
  if (!form)=true then
   some 1
  else
   if (!names)=true then
    some 7
   else
    if (!numbers)=true then
     some 3
    else
     some 0
theorem A1c {s form names numbers res}(hh:Dn s form names numbers=some res):N0 C 93 [.agg (Q0.cells s),.d (.bool form),.d (.bool names),.d (.bool numbers)] [] (Ret [] (.d (.int .i64 res))):=by
 unfold Dn at hh
 refine N0.intro hC Tryz.func93 rfl rfl rfl (s' rfl rfl (K0.n hC rfl (e' rfl (S' (sg' 8 rfl (G' 5 rfl (a1' rfl (a1' rfl (po' rfl (an' (n' (ci' rfl hh (fun hh=>?_) (fun hh=>?_)))))))))))))
 ·cases hh
  exact t' rfl (re' (rt' rfl rfl rfl))
 refine sk' (S' (t' rfl (ci' rfl hh (fun hh=>?_) (fun hh=>?_))))
 ·cases hh
  exact t' rfl (re' (rt' rfl rfl rfl))
 refine sk' (S' (t' rfl (ci' rfl hh (fun hh=>?_) (fun hh=>?_))))
 ·cases hh
  exact t' rfl (re' (rt' rfl rfl rfl))
 refine sk' (S' (t' rfl (ci' rfl hh (fun hh=>?_) (fun hh=>?_))))
 ·cases hh
  exact t' rfl (re' (rt' rfl rfl rfl))
 cases hh
 exact sk' (t' rfl (re' (rt' rfl rfl rfl)))
def Yp (p:O0):Option Int:=
 Wp p>>=fun x1=>
 Pa p.Decls>>=fun x2=>
 (if x2=true then Q8 p.Body else some default)>>=fun x3=>
 I9 p.Decls>>=fun x4=>
 (if x4=true then M7 p.Body else some default)>>=fun x5=>
 A7 p.Decls>>=fun x6=>
 (if x6=true then Y5 p.Body else some default)>>=fun x7=>
 Dn x1 (bif x2 then x3 else false) (bif x4 then x5 else false) (bif x6 then x7 else false)>>=fun x8=>
 some x8
theorem I1f {p res}(hh:Yp p=some res):N0 C 45 [.agg (O0.cells p)] [] (Ret [] (.d (.int .i64 res))):=by
 unfold Yp at hh
 obtain ⟨x1,hx1,hh⟩:=bs' hh
 obtain ⟨x2,hx2,hh⟩:=bs' hh
 obtain ⟨x3,hx3,hh⟩:=bs' hh
 obtain ⟨x4,hx4,hh⟩:=bs' hh
 obtain ⟨x5,hx5,hh⟩:=bs' hh
 obtain ⟨x6,hx6,hh⟩:=bs' hh
 obtain ⟨x7,hx7,hh⟩:=bs' hh
 obtain ⟨x8,hx8,hh⟩:=bs' hh
 cases hh
 refine N0.intro hC Tryz.func45 rfl rfl rfl (s' rfl rfl (K0.n hC rfl (e' rfl (S' (AEx.drawG hC 28 rfl rfl rfl (a0' rfl (AG.c rfl rfl (fun _=>trivial) (fun _=>F1f hx1) (G' 2 rfl (AG.c rfl rfl (fun _=>trivial) (fun _=>E19 hx2) (G' 2 rfl (a1' rfl (AG.c rfl rfl (fun hg=>⟨hg,trivial⟩) (fun hw=>Vu (L1 hw hx3)) (pa' rfl ?_)))))))))))))
 refine G' 2 rfl (AG.c rfl rfl (fun _=>trivial) (fun _=>Q17 hx4) (G' 2 rfl (a1' rfl (AG.c rfl rfl (fun hg=>⟨hg,trivial⟩) (fun hw=>Vs (L1 hw hx5)) (pa' rfl (G' 2 rfl (AG.c rfl rfl (fun _=>trivial) (fun _=>M13 hx6) (G' 2 rfl (a1' rfl (AG.c rfl rfl (fun hg=>⟨hg,trivial⟩) (fun hw=>Cr (L1 hw hx7)) (pa' rfl ?_)))))))))))
 exact AG.c rfl rfl (fun _=>trivial) (fun _=>A1c hx8) (a0' rfl (an' (n' (re' (rt' rfl rfl rfl)))))
mutual
def Ig (t:F0):Option (List Str):=
 if (t.Kind == 4)=true then
  if (decide ((0+1) * 17≤140737488355328))=true then
   Mi t [t.Name]
  else none
 else
  Mi t []
 partial_fixpoint
def Mi (t:F0)(out:List Str):Option (List Str):=
 Ye t out 0
 partial_fixpoint
def Ye (t:F0)(out1:List Str)(i:Int):Option (List Str):=
 if (decide (i < ((t.Of).length:Int)))=true then
  idx t.Of i>>=fun x1=>
  Ig x1>>=fun x2=>
  if (decide ((out1.length+x2.length) * 17≤140737488355328))=true then
   Ye t (out1++x2) (IntKind.i64.wrap (i+1))
  else none
 else
  some out1
 partial_fixpoint
end
abbrev Lz (t:F0)(res:List Str):Prop:=N0 C 101 [.agg (F0.cells t)] [] (Ret [] (.d (.sl (estr.rows res))))
abbrev R17 (t:F0)(out:List Str)(res:List Str):Prop:=JM C 30 0 Tryz.f101 [1,1,1] [(1,.ref 0 0),(3,.osl 1 (estr.rows out))] [.row (F0.cells t) 48,.tok 9 1] (Ret [] (.d (.sl (estr.rows res))))
abbrev S17 (t:F0)(out1:List Str)(i:Int)(res:List Str):Prop:=LM C 30 0 Tryz.f101 [1,1,1,0,1,4] [(1,.ref 0 0),(3,.osl 1 (estr.rows out1)),(4,.d (.int .i64 i))] [.row (F0.cells t) 48,.tok 9 1] (Ret [] (.d (.sl (estr.rows res))))
theorem G19:(∀ t res,Ig t=some res→Lz t res)∧(∀ t out res,Mi t out=some res→R17 t out res)∧(∀ t out1 i res,Ye t out1 i=some res→S17 t out1 i res):=by
 refine Ig.mutual_partial_correctness _ _ _ ?_ ?_ ?_
 ·intro g1 ih1 t res hh
  refine N0.intro hC Tryz.func101 rfl rfl rfl (s' rfl rfl (K0.n hC rfl (e' rfl (s' rfl rfl (K0.be hC rfl (estr.rows_map []).symm (K0.tokE 5 9 1 rfl (e' rfl (S' (t' rfl (ci' rfl hh (fun hh=>?_) (fun hh=>?_)))))))))))
  ·obtain ⟨c13,hh⟩:=U0 hh
   exact P' 3 rfl (K0.be hC rfl (estr.rows_map [t.Name]).symm (K0.ap hC rfl (rs:=estr.rows [t.Name]) rfl (estr.sz []) (estr.sz [t.Name]) (T2 (estr.len []) (estr.len [t.Name]) c13) (e' rfl (ew' (ih1 _ _ _ hh) rfl rfl rfl))))
  exact sk' (ew' (ih1 _ _ _ hh) rfl rfl rfl)
 ·intro g2 ih2 t out res hh
  exact S' (t' rfl (bk' (fw' (ih2 _ _ _ _ hh) rfl rfl rfl)))
 ·intro g0 g2 ih0 ih2 t out1 i res hh
  refine Y0.unroll (S' (p' 3 rfl (qe' rfl trivial (F0.lenA _) (e' rfl (ci' rfl hh (fun hh=>?_) (fun hh=>?_))))))
  ·obtain ⟨x1,hx1,hh⟩:=bs' hh
   obtain ⟨x2,hx2,hh⟩:=bs' hh
   obtain ⟨c14,hh⟩:=U0 hh
   exact sk' (S' (bk' (P' 4 rfl (i' rfl (S0 hx1) (F0.idx hx1) rfl (q' rfl (c' (ih0 _ _ hx2) rfl rfl (K0.ap hC rfl (rs:=estr.rows (out1++x2)) (estr.app out1 x2) (estr.sz out1) (estr.sz x2) (T2 (estr.len out1) (estr.len x2) c14) (e' rfl (T' rfl (lw' (ih2 _ _ _ _ hh) rfl rfl rfl))))))))))
  refine ex' (t' rfl (re' ?_))
  obtain rfl:=oi' hh
  exact ⟨_,.d (.sl (estr.rows out1)),[],rfl,.osl,trivial,rfl,rfl,rfl,rfl⟩
theorem X1a {t res}(hh:Ig t=some res):Lz t res:=(G19).1 _ _ hh
mutual
def A8 (e:A0):Option (List Str):=
 if (e.Op == 3)=true then
  if (decide ((0+1) * 17≤140737488355328))=true then
   Ni e [e.Name]
  else none
 else
  Ni e []
 partial_fixpoint
def Ni (e:A0)(out:List Str):Option (List Str):=
 Ze e out 0
 partial_fixpoint
def Ze (e:A0)(out1:List Str)(i:Int):Option (List Str):=
 if (decide (i < ((e.Kids).length:Int)))=true then
  idx e.Kids i>>=fun x1=>
  A8 x1>>=fun x2=>
  if (decide ((out1.length+x2.length) * 17≤140737488355328))=true then
   Ze e (out1++x2) (IntKind.i64.wrap (i+1))
  else none
 else
  some out1
 partial_fixpoint
end
abbrev Mz (e:A0)(res:List Str):Prop:=N0 C 102 [.agg (A0.cells e)] [] (Ret [] (.d (.sl (estr.rows res))))
abbrev T17 (e:A0)(out:List Str)(res:List Str):Prop:=JM C 30 0 Tryz.f102 [1,1,1] [(1,.ref 0 0),(3,.osl 1 (estr.rows out))] [.row (A0.cells e) 40,.tok 9 1] (Ret [] (.d (.sl (estr.rows res))))
abbrev U17 (e:A0)(out1:List Str)(i:Int)(res:List Str):Prop:=LM C 30 0 Tryz.f102 [1,1,1,0,1,4] [(1,.ref 0 0),(3,.osl 1 (estr.rows out1)),(4,.d (.int .i64 i))] [.row (A0.cells e) 40,.tok 9 1] (Ret [] (.d (.sl (estr.rows res))))
theorem H19:(∀ e res,A8 e=some res→Mz e res)∧(∀ e out res,Ni e out=some res→T17 e out res)∧(∀ e out1 i res,Ze e out1 i=some res→U17 e out1 i res):=by
 refine A8.mutual_partial_correctness _ _ _ ?_ ?_ ?_
 ·intro g1 ih1 e res hh
  refine N0.intro hC Tryz.func102 rfl rfl rfl (s' rfl rfl (K0.n hC rfl (e' rfl (s' rfl rfl (K0.be hC rfl (estr.rows_map []).symm (K0.tokE 5 9 1 rfl (e' rfl (S' (t' rfl (ci' rfl hh (fun hh=>?_) (fun hh=>?_)))))))))))
  ·obtain ⟨c13,hh⟩:=U0 hh
   exact P' 3 rfl (K0.be hC rfl (estr.rows_map [e.Name]).symm (K0.ap hC rfl (rs:=estr.rows [e.Name]) rfl (estr.sz []) (estr.sz [e.Name]) (T2 (estr.len []) (estr.len [e.Name]) c13) (e' rfl (ew' (ih1 _ _ _ hh) rfl rfl rfl))))
  exact sk' (ew' (ih1 _ _ _ hh) rfl rfl rfl)
 ·intro g2 ih2 e out res hh
  exact S' (t' rfl (bk' (fw' (ih2 _ _ _ _ hh) rfl rfl rfl)))
 ·intro g0 g2 ih0 ih2 e out1 i res hh
  refine Y0.unroll (S' (p' 3 rfl (qe' rfl trivial (A0.lenA _) (e' rfl (ci' rfl hh (fun hh=>?_) (fun hh=>?_))))))
  ·obtain ⟨x1,hx1,hh⟩:=bs' hh
   obtain ⟨x2,hx2,hh⟩:=bs' hh
   obtain ⟨c14,hh⟩:=U0 hh
   exact sk' (S' (bk' (P' 4 rfl (i' rfl (S0 hx1) (A0.idx hx1) rfl (q' rfl (c' (ih0 _ _ hx2) rfl rfl (K0.ap hC rfl (rs:=estr.rows (out1++x2)) (estr.app out1 x2) (estr.sz out1) (estr.sz x2) (T2 (estr.len out1) (estr.len x2) c14) (e' rfl (T' rfl (lw' (ih2 _ _ _ _ hh) rfl rfl rfl))))))))))
  refine ex' (t' rfl (re' ?_))
  obtain rfl:=oi' hh
  exact ⟨_,.d (.sl (estr.rows out1)),[],rfl,.osl,trivial,rfl,rfl,rfl,rfl⟩
theorem Kl {e res}(hh:A8 e=some res):Mz e res:=(H19).1 _ _ hh
mutual
def T6 (l:List C0):Option (List Str):=
 Zc l [] 0
 partial_fixpoint
def Zc (l:List C0)(out2:List Str)(i:Int):Option (List Str):=
 if (decide (i < ((l).length:Int)))=true then
  idx l i>>=fun x1=>
  Hg x1.Verb>>=fun x2=>
  if x2=true then
   if (decide ((out2.length+1) * 17≤140737488355328))=true then
    Lh l x1 (out2++[x1.Name]) i
   else none
  else
   Lh l x1 out2 i
 else
  some out2
 partial_fixpoint
def Lh (l:List C0)(x1:C0)(out:List Str)(i1:Int):Option (List Str):=
 A8 x1.Place>>=fun x3=>
 if (decide ((out.length+x3.length) * 17≤140737488355328))=true then
  A8 x1.Value>>=fun x4=>
  if (decide (((out++x3).length+x4.length) * 17≤140737488355328))=true then
   Ad l x1 ((out++x3)++x4) i1 0
  else none
 else none
 partial_fixpoint
def Ad (l:List C0)(x1:C0)(out1:List Str)(i2:Int)(k:Int):Option (List Str):=
 if (decide (k < ((x1.Args).length:Int)))=true then
  idx x1.Args k>>=fun x5=>
  A8 x5>>=fun x6=>
  if (decide ((out1.length+x6.length) * 17≤140737488355328))=true then
   Ad l x1 (out1++x6) i2 (IntKind.i64.wrap (k+1))
  else none
 else
  T6 x1.Then>>=fun x7=>
  if (decide ((out1.length+x7.length) * 17≤140737488355328))=true then
   T6 x1.Else>>=fun x8=>
   if (decide (((out1++x7).length+x8.length) * 17≤140737488355328))=true then
    Zc l ((out1++x7)++x8) (IntKind.i64.wrap (i2+1))
   else none
  else none
 partial_fixpoint
end
abbrev Tw (l:List C0)(res:List Str):Prop:=N0 C 47 [.d (.sl (C0.rows l))] [] (Ret [] (.d (.sl (estr.rows res))))
abbrev Q15 (l:List C0)(out2:List Str)(i:Int)(res:List Str):Prop:=LM C 62 0 Tryz.f47 [1,1,0,1,4] [(0,.d (.sl (C0.rows l))),(3,.osl 0 (estr.rows out2)),(4,.d (.int .i64 i))] [.tok 9 1] (Ret [] (.d (.sl (estr.rows res))))
abbrev R15 (l:List C0)(x1:C0)(out:List Str)(i1:Int)(res:List Str):Prop:=JM C 62 0 Tryz.f47 [1,1,0,1,4,5,1,0,4,1,1] [(0,.d (.sl (C0.rows l))),(3,.osl 0 (estr.rows out)),(4,.d (.int .i64 i1)),(5,.ref 1 0)] [.tok 9 1,.row (C0.cells x1) 79] (Ret [] (.d (.sl (estr.rows res))))
abbrev S15 (l:List C0)(x1:C0)(out1:List Str)(i2:Int)(k:Int)(res:List Str):Prop:=LM C 62 0 Tryz.f47 [1,1,0,1,4,5,1,0,4,1,1,1,1,0,1,4] [(0,.d (.sl (C0.rows l))),(3,.osl 0 (estr.rows out1)),(4,.d (.int .i64 i2)),(5,.ref 1 0),(6,.d (.int .i64 k))] [.tok 9 1,.row (C0.cells x1) 79] (Ret [] (.d (.sl (estr.rows res))))
theorem V17:(∀ l res,T6 l=some res→Tw l res)∧(∀ l out2 i res,Zc l out2 i=some res→Q15 l out2 i res)∧(∀ l x1 out i1 res,Lh l x1 out i1=some res→R15 l x1 out i1 res)∧(∀ l x1 out1 i2 k res,Ad l x1 out1 i2 k=some res→S15 l x1 out1 i2 k res):=by
 refine T6.mutual_partial_correctness _ _ _ _ ?_ ?_ ?_ ?_
 ·intro g1 ih1 l res hh
  exact N0.intro hC Tryz.func47 rfl rfl rfl (t' rfl (s' rfl rfl (K0.be hC rfl (estr.rows_map []).symm (K0.tokE 7 9 1 rfl (e' rfl (S' (t' rfl (bk' (fw' (ih1 _ _ _ _ hh) rfl rfl rfl)))))))))
 ·intro g2 ih2 l out2 i res hh
  refine Y0.unroll (S' (p' 2 rfl (qe' rfl trivial (C0.lenA _) (e' rfl (ci' rfl hh (fun hh=>?_) (fun hh=>?_))))))
  ·obtain ⟨x1,hx1,hh⟩:=bs' hh
   obtain ⟨x2,hx2,hh⟩:=bs' hh
   refine sk' (S' (bk' (p' 2 rfl (i' rfl (S0 hx1) (C0.idx hx1) rfl (q' rfl (K0.nf hC rfl (K0.s hC rfl (n' (S' (p' 2 rfl (c' (Jl hx2) rfl rfl (n' (ci' rfl hh (fun hh=>?_) (fun hh=>?_))))))))))))))
   ·obtain ⟨c42,hh⟩:=U0 hh
    exact P' 3 rfl (K0.be hC rfl (estr.rows_map [x1.Name]).symm (K0.ap hC rfl (rs:=estr.rows (out2++[x1.Name])) (estr.app out2 [x1.Name]) (estr.sz out2) (estr.sz [x1.Name]) (T2 (estr.len out2) (estr.len [x1.Name]) c42) (e' rfl (ew' (ih2 _ _ _ _ _ hh) rfl rfl rfl))))
   exact sk' (ew' (ih2 _ _ _ _ _ hh) rfl rfl rfl)
  refine ex' (t' rfl (re' ?_))
  obtain rfl:=oi' hh
  exact ⟨_,.d (.sl (estr.rows out2)),[],rfl,.osl,trivial,rfl,rfl,rfl,rfl⟩
 ·intro g3 ih3 l x1 out i1 res hh
  obtain ⟨x3,hx3,hh⟩:=bs' hh
  obtain ⟨c43,hh⟩:=U0 hh
  obtain ⟨x4,hx4,hh⟩:=bs' hh
  obtain ⟨c44,hh⟩:=U0 hh
  refine p' 3 rfl (c' (Kl hx3) rfl rfl (K0.ap hC rfl (rs:=estr.rows (out++x3)) (estr.app out x3) (estr.sz out) (estr.sz x3) (T2 (estr.len out) (estr.len x3) c43) (e' rfl (p' 3 rfl (c' (Kl hx4) rfl rfl (K0.ap hC rfl (rs:=estr.rows ((out++x3)++x4)) (estr.app (out++x3) x4) (estr.sz (out++x3)) (estr.sz x4) (T2 (estr.len (out++x3)) (estr.len x4) c44) (e' rfl (S' ?_))))))))
  exact t' rfl (bk' (fw' (ih3 _ _ _ _ _ _ hh) rfl rfl rfl))
 ·intro g0 g1 g3 ih0 ih1 ih3 l x1 out1 i2 k res hh
  refine Y0.unroll (S' (p' 3 rfl (qe' rfl trivial (A0.lenA _) (e' rfl (ci' rfl hh (fun hh=>?_) (fun hh=>?_))))))
  ·obtain ⟨x5,hx5,hh⟩:=bs' hh
   obtain ⟨x6,hx6,hh⟩:=bs' hh
   obtain ⟨c45,hh⟩:=U0 hh
   exact sk' (S' (bk' (P' 4 rfl (i' rfl (S0 hx5) (A0.idx hx5) rfl (q' rfl (c' (Kl hx6) rfl rfl (K0.ap hC rfl (rs:=estr.rows (out1++x6)) (estr.app out1 x6) (estr.sz out1) (estr.sz x6) (T2 (estr.len out1) (estr.len x6) c45) (e' rfl (T' rfl (lw' (ih3 _ _ _ _ _ _ hh) rfl rfl rfl))))))))))
  obtain ⟨x7,hx7,hh⟩:=bs' hh
  obtain ⟨c46,hh⟩:=U0 hh
  obtain ⟨x8,hx8,hh⟩:=bs' hh
  obtain ⟨c47,hh⟩:=U0 hh
  exact ex' (p' 3 rfl (c' (ih0 _ _ hx7) rfl rfl (K0.ap hC rfl (rs:=estr.rows (out1++x7)) (estr.app out1 x7) (estr.sz out1) (estr.sz x7) (T2 (estr.len out1) (estr.len x7) c46) (e' rfl (P' 3 rfl (c' (ih0 _ _ hx8) rfl rfl (K0.ap hC rfl (rs:=estr.rows ((out1++x7)++x8)) (estr.app (out1++x7) x8) (estr.sz (out1++x7)) (estr.sz x8) (T2 (estr.len (out1++x7)) (estr.len x8) c47) (e' rfl (T' rfl (lw' (ih1 _ _ _ _ hh) rfl rfl rfl))))))))))
theorem Zu {l res}(hh:T6 l=some res):Tw l res:=(V17).1 _ _ hh
mutual
def Ra (l:List D0):Option (List Str):=
 Cd l [] 0
 partial_fixpoint
def Cd (l:List D0)(out:List Str)(i:Int):Option (List Str):=
 if (decide (i < ((l).length:Int)))=true then
  idx l i>>=fun x1=>
  if (decide ((out.length+1) * 17≤140737488355328))=true then
   Ig x1.TypeV>>=fun x2=>
   if (decide (((out++[x1.Name]).length+x2.length) * 17≤140737488355328))=true then
    A8 x1.Value>>=fun x3=>
    if (decide ((((out++[x1.Name])++x2).length+x3.length) * 17≤140737488355328))=true then
     Ra x1.Params>>=fun x4=>
     if (decide (((((out++[x1.Name])++x2)++x3).length+x4.length) * 17≤140737488355328))=true then
      Ra x1.Vars>>=fun x5=>
      if (decide ((((((out++[x1.Name])++x2)++x3)++x4).length+x5.length) * 17≤140737488355328))=true then
       T6 x1.Body>>=fun x6=>
       if (decide (((((((out++[x1.Name])++x2)++x3)++x4)++x5).length+x6.length) * 17≤140737488355328))=true then
        Cd l ((((((out++[x1.Name])++x2)++x3)++x4)++x5)++x6) (IntKind.i64.wrap (i+1))
       else none
      else none
     else none
    else none
   else none
  else none
 else
  some out
 partial_fixpoint
end
abbrev Uw (l:List D0)(res:List Str):Prop:=N0 C 46 [.d (.sl (D0.rows l))] [] (Ret [.tok 9 1] (.osl 0 (estr.rows res)))
abbrev T15 (l:List D0)(out:List Str)(i:Int)(res:List Str):Prop:=LM C 48 0 Tryz.f46 [1,1,0,1,4] [(0,.d (.sl (D0.rows l))),(3,.osl 0 (estr.rows out)),(4,.d (.int .i64 i))] [.tok 9 1] (Ret [.tok 9 1] (.osl 0 (estr.rows res)))
theorem W17:(∀ l res,Ra l=some res→Uw l res)∧(∀ l out i res,Cd l out i=some res→T15 l out i res):=by
 refine Ra.mutual_partial_correctness _ _ ?_ ?_
 ·intro g1 ih1 l res hh
  exact N0.intro hC Tryz.func46 rfl rfl rfl (t' rfl (s' rfl rfl (K0.be hC rfl (estr.rows_map []).symm (K0.tokE 6 9 1 rfl (e' rfl (S' (t' rfl (bk' (fw' (ih1 _ _ _ _ hh) rfl rfl rfl)))))))))
 ·intro g0 g1 ih0 ih1 l out i res hh
  refine Y0.unroll (S' (p' 2 rfl (qe' rfl trivial (D0.lenA _) (e' rfl (ci' rfl hh (fun hh=>?_) (fun hh=>?_))))))
  ·obtain ⟨x1,hx1,hh⟩:=bs' hh
   obtain ⟨c34,hh⟩:=U0 hh
   obtain ⟨x2,hx2,hh⟩:=bs' hh
   obtain ⟨c35,hh⟩:=U0 hh
   obtain ⟨x3,hx3,hh⟩:=bs' hh
   obtain ⟨c36,hh⟩:=U0 hh
   obtain ⟨x4,hx4,hh⟩:=bs' hh
   obtain ⟨c37,hh⟩:=U0 hh
   obtain ⟨x5,hx5,hh⟩:=bs' hh
   obtain ⟨c38,hh⟩:=U0 hh
   obtain ⟨x6,hx6,hh⟩:=bs' hh
   obtain ⟨c39,hh⟩:=U0 hh
   refine sk' (S' (bk' (p' 2 rfl (i' rfl (S0 hx1) (D0.idx hx1) rfl (q' rfl (K0.nf hC rfl (K0.s hC rfl (n' (p' 3 rfl (K0.be hC rfl (estr.rows_map [x1.Name]).symm (K0.ap hC rfl (rs:=estr.rows (out++[x1.Name])) (estr.app out [x1.Name]) (estr.sz out) (estr.sz [x1.Name]) (T2 (estr.len out) (estr.len [x1.Name]) c34) (e' rfl (p' 3 rfl ?_)))))))))))))
   refine c' (X1a hx2) rfl rfl (K0.ap hC rfl (rs:=estr.rows ((out++[x1.Name])++x2)) (estr.app (out++[x1.Name]) x2) (estr.sz (out++[x1.Name])) (estr.sz x2) (T2 (estr.len (out++[x1.Name])) (estr.len x2) c35) (e' rfl (p' 3 rfl (c' (Kl hx3) rfl rfl ?_))))
   refine K0.ap hC rfl (rs:=estr.rows (((out++[x1.Name])++x2)++x3)) (estr.app ((out++[x1.Name])++x2) x3) (estr.sz ((out++[x1.Name])++x2)) (estr.sz x3) (T2 (estr.len ((out++[x1.Name])++x2)) (estr.len x3) c36) (e' rfl (p' 3 rfl (g' [] (ih0 _ _ hx4) rfl rfl rfl rfl rfl rfl ?_)))
   refine K0.ap hC rfl (rs:=estr.rows ((((out++[x1.Name])++x2)++x3)++x4)) (estr.app (((out++[x1.Name])++x2)++x3) x4) (estr.sz (((out++[x1.Name])++x2)++x3)) (estr.sz x4) (T2 (estr.len (((out++[x1.Name])++x2)++x3)) (estr.len x4) c37) (e' rfl (p' 3 rfl (g' [] (ih0 _ _ hx5) rfl rfl rfl rfl rfl rfl ?_)))
   refine K0.ap hC rfl (rs:=estr.rows (((((out++[x1.Name])++x2)++x3)++x4)++x5)) (estr.app ((((out++[x1.Name])++x2)++x3)++x4) x5) (estr.sz ((((out++[x1.Name])++x2)++x3)++x4)) (estr.sz x5) (T2 (estr.len ((((out++[x1.Name])++x2)++x3)++x4)) (estr.len x5) c38) (e' rfl (P' 3 rfl (c' (Zu hx6) rfl rfl ?_)))
   exact K0.ap hC rfl (rs:=estr.rows ((((((out++[x1.Name])++x2)++x3)++x4)++x5)++x6)) (estr.app (((((out++[x1.Name])++x2)++x3)++x4)++x5) x6) (estr.sz (((((out++[x1.Name])++x2)++x3)++x4)++x5)) (estr.sz x6) (T2 (estr.len (((((out++[x1.Name])++x2)++x3)++x4)++x5)) (estr.len x6) c39) (e' rfl (T' rfl (lw' (ih1 _ _ _ _ hh) rfl rfl rfl)))
  cases hh
  exact ex' (t' rfl (re' (rt' rfl rfl rfl)))
theorem I19 {l res}(hh:Ra l=some res):Uw l res:=(W17).1 _ _ hh
mutual
def X9 (left:List Str)(out:List Str):Option (List Str×Int):=
 if (decide (((left).length:Int) > 0))=true then
  idx left 0>>=fun x4=>
  Jg left out x4 0
 else
  some (out,0)
 partial_fixpoint
def Jg (left1:List Str)(out1:List Str)(least:Str)(i:Int):Option (List Str×Int):=
 if (decide (i < ((left1).length:Int)))=true then
  idx left1 i>>=fun x5=>
  if (Op.bytesLess x5 least)=true then
   idx left1 i>>=fun x6=>
   Jg left1 out1 x6 (IntKind.i64.wrap (i+1))
  else
   Jg left1 out1 least (IntKind.i64.wrap (i+1))
 else
  if (decide ((out1.length+1) * 17≤140737488355328))=true then
   Dd left1 (out1++[least]) least [] 0
  else none
 partial_fixpoint
def Dd (left2:List Str)(out2:List Str)(least:Str)(rest:List Str)(i1:Int):Option (List Str×Int):=
 if (decide (i1 < ((left2).length:Int)))=true then
  idx left2 i1>>=fun x7=>
  if (!(x7 == least))=true then
   idx left2 i1>>=fun x8=>
   if (decide ((rest.length+1) * 17≤140737488355328))=true then
    Dd left2 out2 least (rest++[x8]) (IntKind.i64.wrap (i1+1))
   else none
  else
   Dd left2 out2 least rest (IntKind.i64.wrap (i1+1))
 else
  X9 rest out2
 partial_fixpoint
end
abbrev Nz (left:List Str)(out:List Str)(res:List Str×Int):Prop:=LM C 72 0 Tryz.f15 [1,1,1,1,1,0,4] [(5,.osl 1 (estr.rows left)),(6,.osl 2 (estr.rows out))] [.dead,.tok 9 1,.tok 9 1] (Ret [] (.tup [.d (.sl (estr.rows res.1)),.d (.int .i64 res.2)]))
abbrev B1c (left1:List Str)(out1:List Str)(least:Str)(i:Int)(res:List Str×Int):Prop:=LM C 72 0 Tryz.f15 [1,1,1,1,1,0,4,5,1,4,1,0,1,4] [(5,.osl 1 (estr.rows left1)),(6,.osl 2 (estr.rows out1)),(7,.d (.str least)),(8,.d (.int .i64 i))] [.dead,.tok 9 1,.tok 9 1] (Ret [] (.tup [.d (.sl (estr.rows res.1)),.d (.int .i64 res.2)]))
abbrev C1c (left2:List Str)(out2:List Str)(least:Str)(rest:List Str)(i1:Int)(res:List Str×Int):Prop:=LM C 72 0 Tryz.f15 [1,1,1,1,1,0,4,5,1,4,1,1,1,1,0,1,4] [(5,.osl 1 (estr.rows left2)),(6,.osl 2 (estr.rows out2)),(7,.d (.str least)),(9,.osl 3 (estr.rows rest)),(10,.d (.int .i64 i1))] [.dead,.tok 9 1,.tok 9 1,.tok 9 1] (Ret [] (.tup [.d (.sl (estr.rows res.1)),.d (.int .i64 res.2)]))
theorem J19:(∀ left out res,X9 left out=some res→Nz left out res)∧(∀ left1 out1 least i res,Jg left1 out1 least i=some res→B1c left1 out1 least i res)∧(∀ left2 out2 least rest i1 res,Dd left2 out2 least rest i1=some res→C1c left2 out2 least rest i1 res):=by
 refine X9.mutual_partial_correctness _ _ _ ?_ ?_ ?_
 ·intro g1 ih1 left out res hh
  refine Y0.unroll (S' (p' 1 rfl (qe' rfl trivial (estr.lenA _) (e' rfl (ci' rfl hh (fun hh=>?_) (fun hh=>?_))))))
  ·obtain ⟨x4,hx4,hh⟩:=bs' hh
   refine sk' (bk' (p' 1 rfl (i' rfl (S0 hx4) (estr.idx hx4) rfl (e' rfl (S' (t' rfl (bk' ?_)))))))
   refine AEx.ofLoop ?_
   refine Y0.wk ?_ (ih1 _ _ _ _ _ hh)
   exact ⟨⟨⟨.rfl,rfl⟩,⟨.rfl,rfl⟩,⟨.rfl,rfl⟩,⟨.rfl,rfl⟩,trivial⟩,⟨trivial,rfl,rfl,trivial⟩,rfl⟩
  refine ex' (t' rfl (re' ?_))
  obtain rfl:=oi' hh
  exact ⟨_,.tup [.d (.sl (estr.rows out)),.d (.int .i64 0)],[],rfl,(.tupL ⟨.osl,.rfl,trivial⟩),trivial,rfl,rfl,rfl,rfl⟩
 ·intro g1 g2 ih1 ih2 left1 out1 least i res hh
  refine Y0.unroll (S' (p' 2 rfl (qe' rfl trivial (estr.lenA _) (e' rfl (ci' rfl hh (fun hh=>?_) (fun hh=>?_))))))
  ·obtain ⟨x5,hx5,hh⟩:=bs' hh
   refine sk' (S' (bk' (p' 2 rfl (i' rfl (S0 hx5) (estr.idx hx5) rfl (e' rfl (ci' rfl hh (fun hh=>?_) (fun hh=>?_)))))))
   ·obtain ⟨x6,hx6,hh⟩:=bs' hh
    refine P' 2 rfl (i' rfl (S0 hx6) (estr.idx hx6) rfl (e' rfl (T' rfl ?_)))
    refine Y0.wk ?_ (ih1 _ _ _ _ _ hh)
    exact ⟨⟨⟨.rfl,rfl⟩,⟨.rfl,rfl⟩,⟨.rfl,rfl⟩,⟨.rfl,rfl⟩,trivial⟩,⟨trivial,rfl,rfl,trivial⟩,rfl⟩
   refine sk' (T' rfl ?_)
   refine Y0.wk ?_ (ih1 _ _ _ _ _ hh)
   exact ⟨⟨⟨.rfl,rfl⟩,⟨.rfl,rfl⟩,⟨.rfl,rfl⟩,⟨.rfl,rfl⟩,trivial⟩,⟨trivial,rfl,rfl,trivial⟩,rfl⟩
  obtain ⟨c29,hh⟩:=U0 hh
  refine ex' (p' 2 rfl (K0.be hC rfl (estr.rows_map [least]).symm (K0.ap hC rfl (rs:=estr.rows (out1++[least])) (estr.app out1 [least]) (estr.sz out1) (estr.sz [least]) (T2 (estr.len out1) (estr.len [least]) c29) (e' rfl (s' rfl rfl (K0.be hC rfl (estr.rows_map []).symm (K0.tokE 50 9 1 rfl (e' rfl (S' (t' rfl (bk' ?_)))))))))))
  refine AEx.ofLoop ?_
  refine Y0.wk ?_ (ih2 _ _ _ _ _ _ hh)
  exact ⟨⟨⟨.rfl,rfl⟩,⟨.rfl,rfl⟩,⟨.rfl,rfl⟩,⟨.rfl,rfl⟩,⟨.rfl,rfl⟩,trivial⟩,⟨trivial,rfl,rfl,rfl,trivial⟩,rfl⟩
 ·intro g0 g2 ih0 ih2 left2 out2 least rest i1 res hh
  refine Y0.unroll (S' (p' 2 rfl (qe' rfl trivial (estr.lenA _) (e' rfl (ci' rfl hh (fun hh=>?_) (fun hh=>?_))))))
  ·obtain ⟨x7,hx7,hh⟩:=bs' hh
   refine sk' (S' (bk' (p' 2 rfl (i' rfl (S0 hx7) (estr.idx hx7) rfl (e' rfl (ci' rfl hh (fun hh=>?_) (fun hh=>?_)))))))
   ·obtain ⟨x8,hx8,hh⟩:=bs' hh
    obtain ⟨c30,hh⟩:=U0 hh
    refine P' 3 rfl (i' rfl (S0 hx8) (estr.idx hx8) rfl (q' rfl (K0.be hC rfl (estr.rows_map [x8]).symm (K0.ap hC rfl (rs:=estr.rows (rest++[x8])) (estr.app rest [x8]) (estr.sz rest) (estr.sz [x8]) (T2 (estr.len rest) (estr.len [x8]) c30) (e' rfl (T' rfl ?_))))))
    refine Y0.wk ?_ (ih2 _ _ _ _ _ _ hh)
    exact ⟨⟨⟨.rfl,rfl⟩,⟨.rfl,rfl⟩,⟨.rfl,rfl⟩,⟨.rfl,rfl⟩,⟨.rfl,rfl⟩,trivial⟩,⟨trivial,rfl,rfl,rfl,trivial⟩,rfl⟩
   refine sk' (T' rfl ?_)
   refine Y0.wk ?_ (ih2 _ _ _ _ _ _ hh)
   exact ⟨⟨⟨.rfl,rfl⟩,⟨.rfl,rfl⟩,⟨.rfl,rfl⟩,⟨.rfl,rfl⟩,⟨.rfl,rfl⟩,trivial⟩,⟨trivial,rfl,rfl,rfl,trivial⟩,rfl⟩
  refine ex' (T' rfl ?_)
  refine Y0.rj (L:=[(5,.osl 1 (estr.rows rest)),(6,.osl 2 (estr.rows out2))]) (H2:=[.dead,.tok 9 1,.tok 9 1]) [0,3,2] ?_ rfl rfl rfl rfl
  refine Y0.wk ?_ (ih0 _ _ _ hh)
  exact ⟨⟨⟨.rfl,rfl⟩,⟨.rfl,rfl⟩,trivial⟩,⟨trivial,rfl,rfl,trivial⟩,rfl⟩
theorem Y1a {left out res}(hh:X9 left out=some res):Nz left out res:=(J19).1 _ _ _ hh
end Go.Proofs.YtbmlpamppbcdeaaGreatDoor

set_option maxRecDepth 100000
set_option maxHeartbeats 4000000
set_option synthInstance.maxSize 20000
set_option linter.unusedVariables false
namespace Go.Proofs.YtbmlpamppbcdeaaGreatDoor
open Go.Am
def Zp (p:O0):Option (List Str×Int):=
 Yp p>>=fun x1=>
 if (x1 != 0)=true then
  some ([],x1)
 else
  Ra p.Decls>>=fun x2=>
  T6 p.Body>>=fun x3=>
  if (decide ((x2.length+x3.length) * 17≤140737488355328))=true then
   X9 (x2++x3) []
  else none
theorem J1f {p res}(hh:Zp p=some res):N0 C 15 [.agg (O0.cells p)] [] (Ret [] (.tup [.d (.sl (estr.rows res.1)),.d (.int .i64 res.2)])):=by
 unfold Zp at hh
 obtain ⟨x1,hx1,hh⟩:=bs' hh
 refine N0.intro hC Tryz.func15 rfl rfl rfl (s' rfl rfl (K0.n hC rfl (e' rfl (p' 1 rfl (c' (I1f hx1) rfl rfl (e' rfl (S' (t' rfl (ci' rfl hh (fun hh=>?_) (fun hh=>?_))))))))))
 ·refine t' rfl (re' ?_)
  obtain rfl:=oi' hh
  exact ⟨_,.tup [.d (.sl (estr.rows [])),.d (.int .i64 x1)],[],rfl,(.tupL ⟨.full,.rfl,trivial⟩),trivial,rfl,rfl,rfl,rfl⟩
 obtain ⟨x2,hx2,hh⟩:=bs' hh
 obtain ⟨x3,hx3,hh⟩:=bs' hh
 obtain ⟨c28,hh⟩:=U0 hh
 refine sk' (S' (AEx.drawL hC 5 [2] [] [[.row (O0.cells p) 25],[.row (O0.cells p) 25,.tok 9 1]] rfl rfl rfl rfl rfl rfl rfl rfl rfl rfl (AS.q hC rfl rfl rfl rfl (AS.q hC rfl rfl rfl rfl (AS.g [] (I19 hx2) rfl rfl rfl rfl rfl rfl rfl rfl rfl rfl rfl rfl (AS.q hC rfl rfl rfl rfl (AS.q hC rfl rfl rfl rfl (AS.nil (c' (Zu hx3) rfl rfl ?_)))))))))
 refine K0.ap hC rfl (rs:=estr.rows (x2++x3)) (estr.app x2 x3) (estr.sz x2) (estr.sz x3) (T2 (estr.len x2) (estr.len x3) c28) (e' rfl (s' rfl rfl (K0.be hC rfl (estr.rows_map []).symm (K0.tokE 23 9 1 rfl (e' rfl (S' (bk' ?_)))))))
 refine AEx.ofLoop ?_
 refine Y0.wk ?_ (Y1a hh)
 exact ⟨⟨⟨.rfl,rfl⟩,⟨.rfl,rfl⟩,trivial⟩,⟨trivial,rfl,rfl,trivial⟩,rfl⟩
def R2 (s:List Str)(v:Str)(v8:Int):Option Int:=
 if (decide (v8 < ((s).length:Int)))=true then
  idx s v8>>=fun x1=>
  if (v == x1)=true then
   some v8
  else
   R2 s v (IntKind.i64.wrap (v8+1))
 else
  some (-1)
 partial_fixpoint
abbrev Uj (s:List Str)(v:Str)(v8:Int)(res:Int):Prop:=LM C 19 0 Tryz.f105 [1,0,1,4] [(0,.d (.sl (estr.rows s))),(1,.d (.str v)),(7,.d (.int .i64 ((s).length:Int))),(8,.d (.int .i64 v8))] [] (Ret [] (.d (.int .i64 res)))
theorem Aq (s:List Str)(v:Str):(∀ v8 res,R2 s v v8=some res→Uj s v v8 res):=by
 refine R2.partial_correctness s v _ ?_
 ·intro g0 ih0 v8 res hh
  refine Y0.unroll (t' rfl (S' (ci' rfl hh (fun hh=>?_) (fun hh=>?_))))
  ·obtain ⟨x1,hx1,hh⟩:=bs' hh
   refine sk' (S' (bk' (t' rfl (p' 3 rfl (i' rfl (S0 hx1) (estr.idx hx1) rfl (e' rfl (ci' rfl hh (fun hh=>?_) (fun hh=>?_))))))))
   ·cases hh
    exact t' rfl (re' (rt' rfl rfl rfl))
   exact sk' (T' rfl (lw' (ih0 _ _ hh) rfl rfl rfl))
  cases hh
  exact ex' (t' rfl (re' (rt' rfl rfl rfl)))
theorem Mq {s v v8 res}(hh:R2 s v v8=some res):Uj s v v8 res:=(Aq s v) _ _ hh
def Ub (s:List Str)(v:Str):Option Int:=
 R2 s v 0
theorem Ns {s v res}(hh:Ub s v=some res):N0 C 105 [.d (.sl (estr.rows s)),.d (.str v)] [] (Ret [] (.d (.int .i64 res))):=by
 unfold Ub at hh
 exact N0.intro hC Tryz.func105 rfl rfl rfl (t' rfl (S' (p' 1 rfl (qe' rfl trivial (estr.lenA _) (e' rfl (bk' (fw' (Mq hh) rfl rfl rfl)))))))
def I6 (s:List Str)(v:Str):Option Bool:=
 Ub s v>>=fun x1=>
 some (decide (x1≥0))
theorem Nq {s v res}(hh:I6 s v=some res):N0 C 49 [.d (.sl (estr.rows s)),.d (.str v)] [] (Ret [] (.d (.bool res))):=by
 unfold I6 at hh
 obtain ⟨x1,hx1,hh⟩:=bs' hh
 cases hh
 exact N0.intro hC Tryz.func49 rfl rfl rfl (t' rfl (p' 2 rfl (c' (Ns hx1) rfl rfl (e' rfl (re' (rt' rfl rfl rfl))))))
def Sa (s:Str)(s1:Str)(s2:Str):Option Str:=
 if (s == s1)=true then
  some s2
 else
  some s
theorem Kk {s s1 s2 res}(hh:Sa s s1 s2=some res):N0 C 50 [.d (.str s),.ref 0 0,.ref 1 0] [.row [.d (.str s1)] 9,.row [.d (.str s2)] 9] (Ret [.row [.d (.str s1)] 9,.row [.d (.str s2)] 9] (.d (.str res))):=by
 unfold Sa at hh
 refine N0.intro hC Tryz.func50 rfl rfl rfl (t' rfl (S' (t' rfl (ci' rfl hh (fun hh=>?_) (fun hh=>?_)))))
 ·cases hh
  exact t' rfl (re' (rt' rfl rfl rfl))
 cases hh
 exact sk' (t' rfl (re' (rt' rfl rfl rfl)))
mutual
def M6 (t:F0)(s:Str)(s1:Str):Option F0:=
 if (t.Kind == 4)=true then
  Sa t.Name s s1>>=fun x1=>
  J9 t s s1 x1
 else
  J9 t s s1 t.Name
 partial_fixpoint
def J9 (t:F0)(s:Str)(s1:Str)(o3_Name:Str):Option F0:=
 R7 t.Names>>=fun x2=>
 Wj t.Of s s1>>=fun x3=>
 some (F0.mk t.Kind t.Low t.High t.Size o3_Name x2 x3)
 partial_fixpoint
def Wj (l:List F0)(s:Str)(s1:Str):Option (List F0):=
 M5 l s s1 [] 0
 partial_fixpoint
def M5 (l:List F0)(s:Str)(s1:Str)(out:List F0)(v10:Int):Option (List F0):=
 if (decide (v10 < ((l).length:Int)))=true then
  idx l v10>>=fun x1=>
  M6 x1 s s1>>=fun x2=>
  if (decide ((out.length+1) * 97≤140737488355328))=true then
   M5 l s s1 (out++[x2]) (IntKind.i64.wrap (v10+1))
  else none
 else
  some out
 partial_fixpoint
end
abbrev Cp (t:F0)(s:Str)(s1:Str)(res:F0):Prop:=N0 C 106 [.agg [.clo 50 [.ref 0 0,.ref 1 0]],.agg (F0.cells t)] [.row [.d (.str s)] 9,.row [.d (.str s1)] 9] (Ret [.row [.d (.str s)] 9,.row [.d (.str s1)] 9] (.agg (F0.cells res)))
abbrev Uv (t:F0)(s:Str)(s1:Str)(o3_Name:Str)(res:F0):Prop:=JM C 25 2 Tryz.f106 [1,1] [(2,.ref 2 0),(3,.ref 3 0),(4,.ref 4 0)] [.row [.d (.str s)] 9,.row [.d (.str s1)] 9,.row [.clo 50 [.ref 0 0,.ref 1 0]] 92,.row [.d (.int .i64 t.Kind),.d (.int .i64 t.Low),.d (.int .i64 t.High),.d (.int .i64 t.Size),.d (.str o3_Name),.d (.sl (estr.rows t.Names)),.d (.sl (F0.rows t.Of))] 48,.row [.d (.int .i64 0),.d (.int .i64 0),.d (.int .i64 0),.d (.int .i64 0),.d (.str []),.full (estr.rows []),.full (F0.rows [])] 48] (Ret [.row [.d (.str s)] 9,.row [.d (.str s1)] 9] (.agg (F0.cells res)))
abbrev Lx (l:List F0)(s:Str)(s1:Str)(res:List F0):Prop:=N0 C 194 [.d (.sl (F0.rows l)),.bnd 106 [.agg [.clo 50 [.ref 0 0,.ref 1 0]]]] [.row [.d (.str s)] 9,.row [.d (.str s1)] 9] (Ret [.row [.d (.str s)] 9,.row [.d (.str s1)] 9] (.d (.sl (F0.rows res))))
abbrev Mt (l:List F0)(s:Str)(s1:Str)(out:List F0)(v10:Int)(res:List F0):Prop:=LM C 22 2 Tryz.f194 [1,1,0,1,4] [(1,.bnd 106 [.agg [.clo 50 [.ref 0 0,.ref 1 0]]]),(5,.osl 2 (F0.rows out)),(8,.d (.sl (F0.rows l))),(9,.d (.int .i64 ((l).length:Int))),(10,.d (.int .i64 v10))] [.row [.d (.str s)] 9,.row [.d (.str s1)] 9,.tok 48 7] (Ret [.row [.d (.str s)] 9,.row [.d (.str s1)] 9] (.d (.sl (F0.rows res))))
theorem Mx (s:Str)(s1:Str):(∀ t res,M6 t s s1=some res→Cp t s s1 res)∧(∀ t o3_Name res,J9 t s s1 o3_Name=some res→Uv t s s1 o3_Name res)∧(∀ l res,Wj l s s1=some res→Lx l s s1 res)∧(∀ l out v10 res,M5 l s s1 out v10=some res→Mt l s s1 out v10 res):=by
 refine M6.mutual_partial_correctness s s1 _ _ _ _ ?_ ?_ ?_ ?_
 ·intro g1 ih1 t res hh
  refine N0.intro hC Tryz.func106 rfl rfl rfl (s' rfl rfl (K0.n hC rfl (K0.n hC rfl (K0.nf hC rfl (n' (S' (t' rfl (ci' rfl hh (fun hh=>?_) (fun hh=>?_)))))))))
  ·obtain ⟨x1,hx1,hh⟩:=bs' hh
   exact P' 4 rfl (g' [0,1] (Kk hx1) rfl rfl rfl rfl rfl rfl (q' rfl (K0.s hC rfl (n' (ew' (ih1 _ _ _ hh) rfl rfl rfl)))))
  exact sk' (ew' (ih1 _ _ _ hh) rfl rfl rfl)
 ·intro g2 ih2 t o3_Name res hh
  obtain ⟨x2,hx2,hh⟩:=bs' hh
  obtain ⟨x3,hx3,hh⟩:=bs' hh
  cases hh
  exact p' 2 rfl (c' (Al hx2) rfl rfl (q' rfl (K0.s hC rfl (n' (p' 4 rfl (g' [0,1] (ih2 _ _ hx3) rfl rfl rfl rfl rfl rfl (q' rfl (K0.s hC rfl (n' (p' 1 rfl (K0.s hC rfl (n' (re' (rt' rfl rfl rfl))))))))))))))
 ·intro g3 ih3 l res hh
  exact N0.intro hC Tryz.func194 rfl rfl rfl (t' rfl (p' 1 rfl (K0.tokE 5 48 7 rfl (n' (S' (p' 1 rfl (qe' rfl trivial (F0.lenA _) (e' rfl (bk' (fw' (ih3 _ _ _ _ hh) rfl rfl rfl))))))))))
 ·intro g0 g3 ih0 ih3 l out v10 res hh
  refine Y0.unroll (t' rfl (S' (ci' rfl hh (fun hh=>?_) (fun hh=>?_))))
  ·obtain ⟨x1,hx1,hh⟩:=bs' hh
   obtain ⟨x2,hx2,hh⟩:=bs' hh
   obtain ⟨c6,hh⟩:=U0 hh
   refine sk' (S' (bk' (s' rfl rfl (i' rfl (S0 hx1) (F0.idx hx1) rfl (q' rfl (K0.nf hC rfl (K0.s hC rfl (n' (P' 3 rfl (g' [0,1] (ih0 _ _ hx2) rfl rfl rfl rfl rfl rfl (K0.be hC rfl (F0.rows_map [x2]).symm (K0.ap hC rfl (rs:=F0.rows (out++[x2])) (F0.app out [x2]) (F0.sz out) (F0.sz [x2]) (T2 (F0.len out) (F0.len [x2]) c6) (e' rfl ?_)))))))))))))
   exact T' rfl (lw' (ih3 _ _ _ _ hh) rfl rfl rfl)
  refine ex' (t' rfl (re' ?_))
  obtain rfl:=oi' hh
  exact ⟨_,.d (.sl (F0.rows out)),[.row [.d (.str s)] 9,.row [.d (.str s1)] 9],rfl,.osl,⟨⟨rfl,.refl _,rfl⟩,⟨rfl,.refl _,rfl⟩,trivial⟩,rfl,rfl,rfl,rfl⟩
theorem Oz {t s s1 res}(hh:M6 t s s1=some res):Cp t s s1 res:=(Mx s s1).1 _ _ hh
mutual
def U3 (e:A0)(s:Str)(s1:Str):Option A0:=
 if (e.Op == 3)=true then
  Sa e.Name s s1>>=fun x1=>
  R8 e s s1 x1
 else
  R8 e s s1 e.Name
 partial_fixpoint
def R8 (e:A0)(s:Str)(s1:Str)(o3_Name:Str):Option A0:=
 I5 e.Kids s s1>>=fun x2=>
 some (A0.mk e.Op e.NV o3_Name x2)
 partial_fixpoint
def I5 (l:List A0)(s:Str)(s1:Str):Option (List A0):=
 S2 l s s1 [] 0
 partial_fixpoint
def S2 (l:List A0)(s:Str)(s1:Str)(out:List A0)(v10:Int):Option (List A0):=
 if (decide (v10 < ((l).length:Int)))=true then
  idx l v10>>=fun x1=>
  U3 x1 s s1>>=fun x2=>
  if (decide ((out.length+1) * 57≤140737488355328))=true then
   S2 l s s1 (out++[x2]) (IntKind.i64.wrap (v10+1))
  else none
 else
  some out
 partial_fixpoint
end
abbrev Ho (e:A0)(s:Str)(s1:Str)(res:A0):Prop:=N0 C 107 [.agg [.clo 50 [.ref 0 0,.ref 1 0]],.agg (A0.cells e)] [.row [.d (.str s)] 9,.row [.d (.str s1)] 9] (Ret [.row [.d (.str s)] 9,.row [.d (.str s1)] 9] (.agg (A0.cells res)))
abbrev Av (e:A0)(s:Str)(s1:Str)(o3_Name:Str)(res:A0):Prop:=JM C 21 2 Tryz.f107 [1,1] [(2,.ref 2 0),(3,.ref 3 0),(4,.ref 4 0)] [.row [.d (.str s)] 9,.row [.d (.str s1)] 9,.row [.clo 50 [.ref 0 0,.ref 1 0]] 92,.row [.d (.int .i64 e.Op),.d (.int .i64 e.NV),.d (.str o3_Name),.d (.sl (A0.rows e.Kids))] 40,.row [.d (.int .i64 0),.d (.int .i64 0),.d (.str []),.full (A0.rows [])] 40] (Ret [.row [.d (.str s)] 9,.row [.d (.str s1)] 9] (.agg (A0.cells res)))
abbrev On (l:List A0)(s:Str)(s1:Str)(res:List A0):Prop:=N0 C 109 [.d (.sl (A0.rows l)),.bnd 107 [.agg [.clo 50 [.ref 0 0,.ref 1 0]]]] [.row [.d (.str s)] 9,.row [.d (.str s1)] 9] (Ret [.row [.d (.str s)] 9,.row [.d (.str s1)] 9] (.d (.sl (A0.rows res))))
abbrev Nt (l:List A0)(s:Str)(s1:Str)(out:List A0)(v10:Int)(res:List A0):Prop:=LM C 22 2 Tryz.f109 [1,1,0,1,4] [(1,.bnd 107 [.agg [.clo 50 [.ref 0 0,.ref 1 0]]]),(5,.osl 2 (A0.rows out)),(8,.d (.sl (A0.rows l))),(9,.d (.int .i64 ((l).length:Int))),(10,.d (.int .i64 v10))] [.row [.d (.str s)] 9,.row [.d (.str s1)] 9,.tok 40 4] (Ret [.row [.d (.str s)] 9,.row [.d (.str s1)] 9] (.d (.sl (A0.rows res))))
theorem En (s:Str)(s1:Str):(∀ e res,U3 e s s1=some res→Ho e s s1 res)∧(∀ e o3_Name res,R8 e s s1 o3_Name=some res→Av e s s1 o3_Name res)∧(∀ l res,I5 l s s1=some res→On l s s1 res)∧(∀ l out v10 res,S2 l s s1 out v10=some res→Nt l s s1 out v10 res):=by
 refine U3.mutual_partial_correctness s s1 _ _ _ _ ?_ ?_ ?_ ?_
 ·intro g1 ih1 e res hh
  refine N0.intro hC Tryz.func107 rfl rfl rfl (s' rfl rfl (K0.n hC rfl (K0.n hC rfl (K0.nf hC rfl (n' (S' (t' rfl (ci' rfl hh (fun hh=>?_) (fun hh=>?_)))))))))
  ·obtain ⟨x1,hx1,hh⟩:=bs' hh
   exact P' 4 rfl (g' [0,1] (Kk hx1) rfl rfl rfl rfl rfl rfl (q' rfl (K0.s hC rfl (n' (ew' (ih1 _ _ _ hh) rfl rfl rfl)))))
  exact sk' (ew' (ih1 _ _ _ hh) rfl rfl rfl)
 ·intro g2 ih2 e o3_Name res hh
  obtain ⟨x2,hx2,hh⟩:=bs' hh
  cases hh
  exact p' 4 rfl (g' [0,1] (ih2 _ _ hx2) rfl rfl rfl rfl rfl rfl (q' rfl (K0.s hC rfl (n' (p' 1 rfl (K0.s hC rfl (n' (re' (rt' rfl rfl rfl)))))))))
 ·intro g3 ih3 l res hh
  exact N0.intro hC Tryz.func109 rfl rfl rfl (t' rfl (p' 1 rfl (K0.tokE 5 40 4 rfl (n' (S' (p' 1 rfl (qe' rfl trivial (A0.lenA _) (e' rfl (bk' (fw' (ih3 _ _ _ _ hh) rfl rfl rfl))))))))))
 ·intro g0 g3 ih0 ih3 l out v10 res hh
  refine Y0.unroll (t' rfl (S' (ci' rfl hh (fun hh=>?_) (fun hh=>?_))))
  ·obtain ⟨x1,hx1,hh⟩:=bs' hh
   obtain ⟨x2,hx2,hh⟩:=bs' hh
   obtain ⟨c6,hh⟩:=U0 hh
   refine sk' (S' (bk' (s' rfl rfl (i' rfl (S0 hx1) (A0.idx hx1) rfl (q' rfl (K0.nf hC rfl (K0.s hC rfl (n' (P' 3 rfl (g' [0,1] (ih0 _ _ hx2) rfl rfl rfl rfl rfl rfl (K0.be hC rfl (A0.rows_map [x2]).symm (K0.ap hC rfl (rs:=A0.rows (out++[x2])) (A0.app out [x2]) (A0.sz out) (A0.sz [x2]) (T2 (A0.len out) (A0.len [x2]) c6) (e' rfl ?_)))))))))))))
   exact T' rfl (lw' (ih3 _ _ _ _ hh) rfl rfl rfl)
  refine ex' (t' rfl (re' ?_))
  obtain rfl:=oi' hh
  exact ⟨_,.d (.sl (A0.rows out)),[.row [.d (.str s)] 9,.row [.d (.str s1)] 9],rfl,.osl,⟨⟨rfl,.refl _,rfl⟩,⟨rfl,.refl _,rfl⟩,trivial⟩,rfl,rfl,rfl,rfl⟩
theorem Zi {e s s1 res}(hh:U3 e s s1=some res):Ho e s s1 res:=(En s s1).1 _ _ hh
theorem Vv {l s s1 res}(hh:I5 l s s1=some res):On l s s1 res:=(En s s1).2.2.1 _ _ hh
mutual
def O2 (l:List C0)(s:Str)(s1:Str):Option (List C0):=
 N5 l s s1 [] 0
 partial_fixpoint
def N5 (l:List C0)(s:Str)(s1:Str)(out:List C0)(v10:Int):Option (List C0):=
 if (decide (v10 < ((l).length:Int)))=true then
  idx l v10>>=fun x1=>
  Qg x1 s s1>>=fun x2=>
  if (decide ((out.length+1) * 257≤140737488355328))=true then
   N5 l s s1 (out++[x2]) (IntKind.i64.wrap (v10+1))
  else none
 else
  some out
 partial_fixpoint
def Qg (s:C0)(s1:Str)(s2:Str):Option C0:=
 J7 s.Verb>>=fun x1=>
 if x1.1.name=true then
  Sa s.Name s1 s2>>=fun x2=>
  S8 s s1 s2 x2
 else
  S8 s s1 s2 s.Name
 partial_fixpoint
def S8 (s:C0)(s1:Str)(s2:Str)(o3_Name:Str):Option C0:=
 U3 s.Place s1 s2>>=fun x3=>
 U3 s.Value s1 s2>>=fun x4=>
 I5 s.Args s1 s2>>=fun x5=>
 Nd s.Numbers>>=fun x6=>
 O2 s.Then s1 s2>>=fun x7=>
 O2 s.Else s1 s2>>=fun x8=>
 some (C0.mk s.Verb x3 x4 o3_Name x5 s.NV s.Low s.High x6 x7 x8)
 partial_fixpoint
end
abbrev Pn (l:List C0)(s:Str)(s1:Str)(res:List C0):Prop:=N0 C 53 [.d (.sl (C0.rows l)),.bnd 54 [.agg [.clo 50 [.ref 0 0,.ref 1 0]]]] [.row [.d (.str s)] 9,.row [.d (.str s1)] 9] (Ret [.row [.d (.str s)] 9,.row [.d (.str s1)] 9] (.d (.sl (C0.rows res))))
abbrev Ot (l:List C0)(s:Str)(s1:Str)(out:List C0)(v10:Int)(res:List C0):Prop:=LM C 22 2 Tryz.f53 [1,1,0,1,4] [(1,.bnd 54 [.agg [.clo 50 [.ref 0 0,.ref 1 0]]]),(5,.osl 2 (C0.rows out)),(8,.d (.sl (C0.rows l))),(9,.d (.int .i64 ((l).length:Int))),(10,.d (.int .i64 v10))] [.row [.d (.str s)] 9,.row [.d (.str s1)] 9,.tok 79 17] (Ret [.row [.d (.str s)] 9,.row [.d (.str s1)] 9] (.d (.sl (C0.rows res))))
abbrev Pz (s:C0)(s1:Str)(s2:Str)(res:C0):Prop:=N0 C 54 [.agg [.clo 50 [.ref 0 0,.ref 1 0]],.agg (C0.cells s)] [.row [.d (.str s1)] 9,.row [.d (.str s2)] 9] (Ret [.row [.d (.str s1)] 9,.row [.d (.str s2)] 9] (.agg (C0.cells res)))
abbrev Bv (s:C0)(s1:Str)(s2:Str)(o3_Name:Str)(res:C0):Prop:=JM C 54 2 Tryz.f54 [1,1] [(2,.ref 2 0),(3,.ref 3 0),(4,.ref 4 0)] [.row [.d (.str s1)] 9,.row [.d (.str s2)] 9,.row [.clo 50 [.ref 0 0,.ref 1 0]] 92,.row [.d (.int .i64 s.Verb),.d (.int .i64 s.Place.Op),.d (.int .i64 s.Place.NV),.d (.str s.Place.Name),.d (.sl (A0.rows s.Place.Kids)),.d (.int .i64 s.Value.Op),.d (.int .i64 s.Value.NV),.d (.str s.Value.Name),.d (.sl (A0.rows s.Value.Kids)),.d (.str o3_Name),.d (.sl (A0.rows s.Args)),.d (.int .i64 s.NV),.d (.int .i64 s.Low),.d (.int .i64 s.High),.d (.sl (ei64.rows s.Numbers)),.d (.sl (C0.rows s.Then)),.d (.sl (C0.rows s.Else))] 79,.row [.d (.int .i64 0),.d (.int .i64 0),.d (.int .i64 0),.d (.str []),.full (A0.rows []),.d (.int .i64 0),.d (.int .i64 0),.d (.str []),.full (A0.rows []),.d (.str []),.full (A0.rows []),.d (.int .i64 0),.d (.int .i64 0),.d (.int .i64 0),.full (ei64.rows []),.full (C0.rows []),.full (C0.rows [])] 79] (Ret [.row [.d (.str s1)] 9,.row [.d (.str s2)] 9] (.agg (C0.cells res)))
theorem Cv (q0:Str)(s1:Str):(∀ l res,O2 l q0 s1=some res→Pn l q0 s1 res)∧(∀ l out v10 res,N5 l q0 s1 out v10=some res→Ot l q0 s1 out v10 res)∧(∀ s res,Qg s q0 s1=some res→Pz s q0 s1 res)∧(∀ s o3_Name res,S8 s q0 s1 o3_Name=some res→Bv s q0 s1 o3_Name res):=by
 refine O2.mutual_partial_correctness q0 s1 _ _ _ _ ?_ ?_ ?_ ?_
 ·intro g1 ih1 l res hh
  exact N0.intro hC Tryz.func53 rfl rfl rfl (t' rfl (p' 1 rfl (K0.tokE 5 79 17 rfl (n' (S' (p' 1 rfl (qe' rfl trivial (C0.lenA _) (e' rfl (bk' (fw' (ih1 _ _ _ _ hh) rfl rfl rfl))))))))))
 ·intro g1 g2 ih1 ih2 l out v10 res hh
  refine Y0.unroll (t' rfl (S' (ci' rfl hh (fun hh=>?_) (fun hh=>?_))))
  ·obtain ⟨x1,hx1,hh⟩:=bs' hh
   obtain ⟨x2,hx2,hh⟩:=bs' hh
   obtain ⟨c5,hh⟩:=U0 hh
   refine sk' (S' (bk' (s' rfl rfl (i' rfl (S0 hx1) (C0.idx hx1) rfl (q' rfl (K0.nf hC rfl (K0.s hC rfl (n' (P' 3 rfl (g' [0,1] (ih2 _ _ hx2) rfl rfl rfl rfl rfl rfl (K0.be hC rfl (C0.rows_map [x2]).symm (K0.ap hC rfl (rs:=C0.rows (out++[x2])) (C0.app out [x2]) (C0.sz out) (C0.sz [x2]) (T2 (C0.len out) (C0.len [x2]) c5) (e' rfl ?_)))))))))))))
   exact T' rfl (lw' (ih1 _ _ _ _ hh) rfl rfl rfl)
  refine ex' (t' rfl (re' ?_))
  obtain rfl:=oi' hh
  exact ⟨_,.d (.sl (C0.rows out)),[.row [.d (.str q0)] 9,.row [.d (.str s1)] 9],rfl,.osl,⟨⟨rfl,.refl _,rfl⟩,⟨rfl,.refl _,rfl⟩,trivial⟩,rfl,rfl,rfl,rfl⟩
 ·intro g3 ih3 s res hh
  obtain ⟨x1,hx1,hh⟩:=bs' hh
  refine N0.intro hC Tryz.func54 rfl rfl rfl (s' rfl rfl (K0.n hC rfl (K0.n hC rfl (K0.nf hC rfl (n' (S' (p' 2 rfl (c' (Mn hx1) rfl rfl (o' 3 rfl (K0.n hC rfl (K0.s hC rfl (e' rfl (t' rfl (ci' rfl hh (fun hh=>?_) (fun hh=>?_)))))))))))))))
  ·obtain ⟨x2,hx2,hh⟩:=bs' hh
   exact P' 4 rfl (g' [0,1] (Kk hx2) rfl rfl rfl rfl rfl rfl (q' rfl (K0.s hC rfl (n' (ew' (ih3 _ _ _ hh) rfl rfl rfl)))))
  exact sk' (ew' (ih3 _ _ _ hh) rfl rfl rfl)
 ·intro g0 ih0 s o3_Name res hh
  obtain ⟨x3,hx3,hh⟩:=bs' hh
  obtain ⟨x4,hx4,hh⟩:=bs' hh
  obtain ⟨x5,hx5,hh⟩:=bs' hh
  obtain ⟨x6,hx6,hh⟩:=bs' hh
  obtain ⟨x7,hx7,hh⟩:=bs' hh
  obtain ⟨x8,hx8,hh⟩:=bs' hh
  cases hh
  refine S' ?_
  refine AEx.drawL hC 9 [3,7] [] [[.row [.d (.str q0)] 9,.row [.d (.str s1)] 9,.row [.clo 50 [.ref 0 0,.ref 1 0]] 92,.row [.d (.int .i64 s.Verb),.d (.int .i64 s.Place.Op),.d (.int .i64 s.Place.NV),.d (.str s.Place.Name),.d (.sl (A0.rows s.Place.Kids)),.d (.int .i64 s.Value.Op),.d (.int .i64 s.Value.NV),.d (.str s.Value.Name),.d (.sl (A0.rows s.Value.Kids)),.d (.str o3_Name),.d (.sl (A0.rows s.Args)),.d (.int .i64 s.NV),.d (.int .i64 s.Low),.d (.int .i64 s.High),.d (.sl (ei64.rows s.Numbers)),.d (.sl (C0.rows s.Then)),.d (.sl (C0.rows s.Else))] 79,.row [.d (.int .i64 0),.d (.int .i64 0),.d (.int .i64 0),.d (.str []),.full (A0.rows []),.d (.int .i64 0),.d (.int .i64 0),.d (.str []),.full (A0.rows []),.d (.str []),.full (A0.rows []),.d (.int .i64 0),.d (.int .i64 0),.d (.int .i64 0),.full (ei64.rows []),.full (C0.rows []),.full (C0.rows [])] 79],[.row [.d (.str q0)] 9,.row [.d (.str s1)] 9,.row [.clo 50 [.ref 0 0,.ref 1 0]] 92,.row [.d (.int .i64 s.Verb),.d (.int .i64 s.Place.Op),.d (.int .i64 s.Place.NV),.d (.str s.Place.Name),.d (.sl (A0.rows s.Place.Kids)),.d (.int .i64 s.Value.Op),.d (.int .i64 s.Value.NV),.d (.str s.Value.Name),.d (.sl (A0.rows s.Value.Kids)),.d (.str o3_Name),.d (.sl (A0.rows s.Args)),.d (.int .i64 s.NV),.d (.int .i64 s.Low),.d (.int .i64 s.High),.d (.sl (ei64.rows s.Numbers)),.d (.sl (C0.rows s.Then)),.d (.sl (C0.rows s.Else))] 79,.row [.d (.int .i64 0),.d (.int .i64 0),.d (.int .i64 0),.d (.str []),.full (A0.rows []),.d (.int .i64 0),.d (.int .i64 0),.d (.str []),.full (A0.rows []),.d (.str []),.full (A0.rows []),.d (.int .i64 0),.d (.int .i64 0),.d (.int .i64 0),.full (ei64.rows []),.full (C0.rows []),.full (C0.rows [])] 79],[.row [.d (.str q0)] 9,.row [.d (.str s1)] 9,.row [.clo 50 [.ref 0 0,.ref 1 0]] 92,.row [.d (.int .i64 s.Verb),.d (.int .i64 s.Place.Op),.d (.int .i64 s.Place.NV),.d (.str s.Place.Name),.d (.sl (A0.rows s.Place.Kids)),.d (.int .i64 s.Value.Op),.d (.int .i64 s.Value.NV),.d (.str s.Value.Name),.d (.sl (A0.rows s.Value.Kids)),.d (.str o3_Name),.d (.sl (A0.rows s.Args)),.d (.int .i64 s.NV),.d (.int .i64 s.Low),.d (.int .i64 s.High),.d (.sl (ei64.rows s.Numbers)),.d (.sl (C0.rows s.Then)),.d (.sl (C0.rows s.Else))] 79,.row [.d (.int .i64 0),.d (.int .i64 0),.d (.int .i64 0),.d (.str []),.full (A0.rows []),.d (.int .i64 0),.d (.int .i64 0),.d (.str []),.full (A0.rows []),.d (.str []),.full (A0.rows []),.d (.int .i64 0),.d (.int .i64 0),.d (.int .i64 0),.full (ei64.rows []),.full (C0.rows []),.full (C0.rows [])] 79]] rfl rfl rfl rfl rfl rfl rfl rfl rfl rfl ?_
  refine AS.q hC rfl rfl rfl rfl (AS.q hC rfl rfl rfl rfl (AS.q hC rfl rfl rfl rfl (AS.g [0,1] (Zi hx3) rfl rfl rfl rfl rfl rfl rfl rfl rfl rfl rfl rfl (AS.q hC rfl rfl rfl rfl (AS.q hC rfl rfl rfl rfl (AS.q hC rfl rfl rfl rfl (AS.g [0,1] (Zi hx4) rfl rfl rfl rfl rfl rfl rfl rfl rfl rfl rfl rfl (AS.q hC rfl rfl rfl rfl (AS.nil (K0.s hC rfl (q' rfl (K0.s hC rfl (n' ?_)))))))))))))
  refine p' 4 rfl (g' [0,1] (Vv hx5) rfl rfl rfl rfl rfl rfl (q' rfl (K0.s hC rfl (n' (p' 2 rfl (c' (Wo hx6) rfl rfl (q' rfl (K0.s hC rfl (n' (S' ?_))))))))))
  refine AEx.drawL hC 11 [4,9] [] [[.row [.d (.str q0)] 9,.row [.d (.str s1)] 9,.row [.clo 50 [.ref 0 0,.ref 1 0]] 92,.row [.d (.int .i64 s.Verb),.d (.int .i64 x3.Op),.d (.int .i64 x3.NV),.d (.str x3.Name),.d (.sl (A0.rows x3.Kids)),.d (.int .i64 x4.Op),.d (.int .i64 x4.NV),.d (.str x4.Name),.d (.sl (A0.rows x4.Kids)),.d (.str o3_Name),.d (.sl (A0.rows x5)),.d (.int .i64 s.NV),.d (.int .i64 s.Low),.d (.int .i64 s.High),.d (.sl (ei64.rows x6)),.d (.sl (C0.rows s.Then)),.d (.sl (C0.rows s.Else))] 79,.row [.d (.int .i64 0),.d (.int .i64 0),.d (.int .i64 0),.d (.str []),.full (A0.rows []),.d (.int .i64 0),.d (.int .i64 0),.d (.str []),.full (A0.rows []),.d (.str []),.full (A0.rows []),.d (.int .i64 0),.d (.int .i64 0),.d (.int .i64 0),.full (ei64.rows []),.full (C0.rows []),.full (C0.rows [])] 79],[.row [.d (.str q0)] 9,.row [.d (.str s1)] 9,.row [.clo 50 [.ref 0 0,.ref 1 0]] 92,.row [.d (.int .i64 s.Verb),.d (.int .i64 x3.Op),.d (.int .i64 x3.NV),.d (.str x3.Name),.d (.sl (A0.rows x3.Kids)),.d (.int .i64 x4.Op),.d (.int .i64 x4.NV),.d (.str x4.Name),.d (.sl (A0.rows x4.Kids)),.d (.str o3_Name),.d (.sl (A0.rows x5)),.d (.int .i64 s.NV),.d (.int .i64 s.Low),.d (.int .i64 s.High),.d (.sl (ei64.rows x6)),.d (.sl (C0.rows s.Then)),.d (.sl (C0.rows s.Else))] 79,.row [.d (.int .i64 0),.d (.int .i64 0),.d (.int .i64 0),.d (.str []),.full (A0.rows []),.d (.int .i64 0),.d (.int .i64 0),.d (.str []),.full (A0.rows []),.d (.str []),.full (A0.rows []),.d (.int .i64 0),.d (.int .i64 0),.d (.int .i64 0),.full (ei64.rows []),.full (C0.rows []),.full (C0.rows [])] 79],[.row [.d (.str q0)] 9,.row [.d (.str s1)] 9,.row [.clo 50 [.ref 0 0,.ref 1 0]] 92,.row [.d (.int .i64 s.Verb),.d (.int .i64 x3.Op),.d (.int .i64 x3.NV),.d (.str x3.Name),.d (.sl (A0.rows x3.Kids)),.d (.int .i64 x4.Op),.d (.int .i64 x4.NV),.d (.str x4.Name),.d (.sl (A0.rows x4.Kids)),.d (.str o3_Name),.d (.sl (A0.rows x5)),.d (.int .i64 s.NV),.d (.int .i64 s.Low),.d (.int .i64 s.High),.d (.sl (ei64.rows x6)),.d (.sl (C0.rows s.Then)),.d (.sl (C0.rows s.Else))] 79,.row [.d (.int .i64 0),.d (.int .i64 0),.d (.int .i64 0),.d (.str []),.full (A0.rows []),.d (.int .i64 0),.d (.int .i64 0),.d (.str []),.full (A0.rows []),.d (.str []),.full (A0.rows []),.d (.int .i64 0),.d (.int .i64 0),.d (.int .i64 0),.full (ei64.rows []),.full (C0.rows []),.full (C0.rows [])] 79]] rfl rfl rfl rfl rfl rfl rfl rfl rfl rfl ?_
  refine AS.q hC rfl rfl rfl rfl (AS.q hC rfl rfl rfl rfl (AS.q hC rfl rfl rfl rfl (AS.q hC rfl rfl rfl rfl (AS.g [0,1] (ih0 _ _ hx7) rfl rfl rfl rfl rfl rfl rfl rfl rfl rfl rfl rfl (AS.q hC rfl rfl rfl rfl (AS.q hC rfl rfl rfl rfl (AS.q hC rfl rfl rfl rfl (AS.q hC rfl rfl rfl rfl (AS.g [0,1] (ih0 _ _ hx8) rfl rfl rfl rfl rfl rfl rfl rfl rfl rfl rfl rfl (AS.q hC rfl rfl rfl rfl (AS.nil (K0.s hC rfl (q' rfl ?_)))))))))))))
  exact K0.s hC rfl (n' (p' 1 rfl (K0.s hC rfl (n' (re' (rt' rfl rfl rfl))))))
theorem Fn {l s s1 res}(hh:O2 l s s1=some res):Pn l s s1 res:=(Cv s s1).1 _ _ hh
mutual
def K3 (l:List D0)(s:Str)(s1:Str):Option (List D0):=
 P5 l s s1 [] 0
 partial_fixpoint
def P5 (l:List D0)(s:Str)(s1:Str)(out:List D0)(v10:Int):Option (List D0):=
 if (decide (v10 < ((l).length:Int)))=true then
  idx l v10>>=fun x1=>
  Rg x1 s s1>>=fun x2=>
  if (decide ((out.length+1) * 257≤140737488355328))=true then
   P5 l s s1 (out++[x2]) (IntKind.i64.wrap (v10+1))
  else none
 else
  some out
 partial_fixpoint
def Rg (d:D0)(s:Str)(s1:Str):Option D0:=
 Sa d.Name s s1>>=fun x1=>
 M6 d.TypeV s s1>>=fun x2=>
 U3 d.Value s s1>>=fun x3=>
 K3 d.Params s s1>>=fun x4=>
 K3 d.Vars s s1>>=fun x5=>
 O2 d.Body s s1>>=fun x6=>
 some (D0.mk d.Kind x1 x2 d.Init x3 x4 x5 x6)
 partial_fixpoint
end
abbrev Qn (l:List D0)(s:Str)(s1:Str)(res:List D0):Prop:=N0 C 51 [.d (.sl (D0.rows l)),.bnd 52 [.agg [.clo 50 [.ref 0 0,.ref 1 0]]]] [.row [.d (.str s)] 9,.row [.d (.str s1)] 9] (Ret [.row [.d (.str s)] 9,.row [.d (.str s1)] 9] (.d (.sl (D0.rows res))))
abbrev Pt (l:List D0)(s:Str)(s1:Str)(out:List D0)(v10:Int)(res:List D0):Prop:=LM C 22 2 Tryz.f51 [1,1,0,1,4] [(1,.bnd 52 [.agg [.clo 50 [.ref 0 0,.ref 1 0]]]),(5,.osl 2 (D0.rows out)),(8,.d (.sl (D0.rows l))),(9,.d (.int .i64 ((l).length:Int))),(10,.d (.int .i64 v10))] [.row [.d (.str s)] 9,.row [.d (.str s1)] 9,.tok 75 17] (Ret [.row [.d (.str s)] 9,.row [.d (.str s1)] 9] (.d (.sl (D0.rows res))))
abbrev Qz (d:D0)(s:Str)(s1:Str)(res:D0):Prop:=N0 C 52 [.agg [.clo 50 [.ref 0 0,.ref 1 0]],.agg (D0.cells d)] [.row [.d (.str s)] 9,.row [.d (.str s1)] 9] (Ret [.row [.d (.str s)] 9,.row [.d (.str s1)] 9] (.agg (D0.cells res)))
theorem Dv (s:Str)(s1:Str):(∀ l res,K3 l s s1=some res→Qn l s s1 res)∧(∀ l out v10 res,P5 l s s1 out v10=some res→Pt l s s1 out v10 res)∧(∀ d res,Rg d s s1=some res→Qz d s s1 res):=by
 refine K3.mutual_partial_correctness s s1 _ _ _ ?_ ?_ ?_
 ·intro g1 ih1 l res hh
  exact N0.intro hC Tryz.func51 rfl rfl rfl (t' rfl (p' 1 rfl (K0.tokE 5 75 17 rfl (n' (S' (p' 1 rfl (qe' rfl trivial (D0.lenA _) (e' rfl (bk' (fw' (ih1 _ _ _ _ hh) rfl rfl rfl))))))))))
 ·intro g1 g2 ih1 ih2 l out v10 res hh
  refine Y0.unroll (t' rfl (S' (ci' rfl hh (fun hh=>?_) (fun hh=>?_))))
  ·obtain ⟨x1,hx1,hh⟩:=bs' hh
   obtain ⟨x2,hx2,hh⟩:=bs' hh
   obtain ⟨c5,hh⟩:=U0 hh
   refine sk' (S' (bk' (s' rfl rfl (i' rfl (S0 hx1) (D0.idx hx1) rfl (q' rfl (K0.nf hC rfl (K0.s hC rfl (n' (P' 3 rfl (g' [0,1] (ih2 _ _ hx2) rfl rfl rfl rfl rfl rfl (K0.be hC rfl (D0.rows_map [x2]).symm (K0.ap hC rfl (rs:=D0.rows (out++[x2])) (D0.app out [x2]) (D0.sz out) (D0.sz [x2]) (T2 (D0.len out) (D0.len [x2]) c5) (e' rfl ?_)))))))))))))
   exact T' rfl (lw' (ih1 _ _ _ _ hh) rfl rfl rfl)
  refine ex' (t' rfl (re' ?_))
  obtain rfl:=oi' hh
  exact ⟨_,.d (.sl (D0.rows out)),[.row [.d (.str s)] 9,.row [.d (.str s1)] 9],rfl,.osl,⟨⟨rfl,.refl _,rfl⟩,⟨rfl,.refl _,rfl⟩,trivial⟩,rfl,rfl,rfl,rfl⟩
 ·intro g0 ih0 d res hh
  obtain ⟨x1,hx1,hh⟩:=bs' hh
  obtain ⟨x2,hx2,hh⟩:=bs' hh
  obtain ⟨x3,hx3,hh⟩:=bs' hh
  obtain ⟨x4,hx4,hh⟩:=bs' hh
  obtain ⟨x5,hx5,hh⟩:=bs' hh
  obtain ⟨x6,hx6,hh⟩:=bs' hh
  cases hh
  refine N0.intro hC Tryz.func52 rfl rfl rfl (s' rfl rfl (K0.n hC rfl (K0.n hC rfl (K0.nf hC rfl (n' (p' 4 rfl (g' [0,1] (Kk hx1) rfl rfl rfl rfl rfl rfl (q' rfl (K0.s hC rfl (n' (S' ?_)))))))))))
  refine AEx.drawL hC 9 [3,7] [] [[.row [.d (.str s)] 9,.row [.d (.str s1)] 9,.row [.clo 50 [.ref 0 0,.ref 1 0]] 92,.row [.d (.int .i64 d.Kind),.d (.str x1),.d (.int .i64 d.TypeV.Kind),.d (.int .i64 d.TypeV.Low),.d (.int .i64 d.TypeV.High),.d (.int .i64 d.TypeV.Size),.d (.str d.TypeV.Name),.d (.sl (estr.rows d.TypeV.Names)),.d (.sl (F0.rows d.TypeV.Of)),.d (.int .i64 d.Init),.d (.int .i64 d.Value.Op),.d (.int .i64 d.Value.NV),.d (.str d.Value.Name),.d (.sl (A0.rows d.Value.Kids)),.d (.sl (D0.rows d.Params)),.d (.sl (D0.rows d.Vars)),.d (.sl (C0.rows d.Body))] 75,.row [.d (.int .i64 0),.d (.str []),.d (.int .i64 0),.d (.int .i64 0),.d (.int .i64 0),.d (.int .i64 0),.d (.str []),.full (estr.rows []),.full (F0.rows []),.d (.int .i64 0),.d (.int .i64 0),.d (.int .i64 0),.d (.str []),.full (A0.rows []),.full (D0.rows []),.full (D0.rows []),.full (C0.rows [])] 75],[.row [.d (.str s)] 9,.row [.d (.str s1)] 9,.row [.clo 50 [.ref 0 0,.ref 1 0]] 92,.row [.d (.int .i64 d.Kind),.d (.str x1),.d (.int .i64 d.TypeV.Kind),.d (.int .i64 d.TypeV.Low),.d (.int .i64 d.TypeV.High),.d (.int .i64 d.TypeV.Size),.d (.str d.TypeV.Name),.d (.sl (estr.rows d.TypeV.Names)),.d (.sl (F0.rows d.TypeV.Of)),.d (.int .i64 d.Init),.d (.int .i64 d.Value.Op),.d (.int .i64 d.Value.NV),.d (.str d.Value.Name),.d (.sl (A0.rows d.Value.Kids)),.d (.sl (D0.rows d.Params)),.d (.sl (D0.rows d.Vars)),.d (.sl (C0.rows d.Body))] 75,.row [.d (.int .i64 0),.d (.str []),.d (.int .i64 0),.d (.int .i64 0),.d (.int .i64 0),.d (.int .i64 0),.d (.str []),.full (estr.rows []),.full (F0.rows []),.d (.int .i64 0),.d (.int .i64 0),.d (.int .i64 0),.d (.str []),.full (A0.rows []),.full (D0.rows []),.full (D0.rows []),.full (C0.rows [])] 75],[.row [.d (.str s)] 9,.row [.d (.str s1)] 9,.row [.clo 50 [.ref 0 0,.ref 1 0]] 92,.row [.d (.int .i64 d.Kind),.d (.str x1),.d (.int .i64 d.TypeV.Kind),.d (.int .i64 d.TypeV.Low),.d (.int .i64 d.TypeV.High),.d (.int .i64 d.TypeV.Size),.d (.str d.TypeV.Name),.d (.sl (estr.rows d.TypeV.Names)),.d (.sl (F0.rows d.TypeV.Of)),.d (.int .i64 d.Init),.d (.int .i64 d.Value.Op),.d (.int .i64 d.Value.NV),.d (.str d.Value.Name),.d (.sl (A0.rows d.Value.Kids)),.d (.sl (D0.rows d.Params)),.d (.sl (D0.rows d.Vars)),.d (.sl (C0.rows d.Body))] 75,.row [.d (.int .i64 0),.d (.str []),.d (.int .i64 0),.d (.int .i64 0),.d (.int .i64 0),.d (.int .i64 0),.d (.str []),.full (estr.rows []),.full (F0.rows []),.d (.int .i64 0),.d (.int .i64 0),.d (.int .i64 0),.d (.str []),.full (A0.rows []),.full (D0.rows []),.full (D0.rows []),.full (C0.rows [])] 75]] rfl rfl rfl rfl rfl rfl rfl rfl rfl rfl ?_
  refine AS.q hC rfl rfl rfl rfl (AS.q hC rfl rfl rfl rfl (AS.q hC rfl rfl rfl rfl (AS.g [0,1] (Oz hx2) rfl rfl rfl rfl rfl rfl rfl rfl rfl rfl rfl rfl (AS.q hC rfl rfl rfl rfl (AS.q hC rfl rfl rfl rfl (AS.q hC rfl rfl rfl rfl (AS.g [0,1] (Zi hx3) rfl rfl rfl rfl rfl rfl rfl rfl rfl rfl rfl rfl (AS.q hC rfl rfl rfl rfl (AS.nil (K0.s hC rfl (q' rfl (K0.s hC rfl (n' ?_)))))))))))))
  refine S' ?_
  refine AEx.drawL hC 11 [4,9] [] [[.row [.d (.str s)] 9,.row [.d (.str s1)] 9,.row [.clo 50 [.ref 0 0,.ref 1 0]] 92,.row [.d (.int .i64 d.Kind),.d (.str x1),.d (.int .i64 x2.Kind),.d (.int .i64 x2.Low),.d (.int .i64 x2.High),.d (.int .i64 x2.Size),.d (.str x2.Name),.d (.sl (estr.rows x2.Names)),.d (.sl (F0.rows x2.Of)),.d (.int .i64 d.Init),.d (.int .i64 x3.Op),.d (.int .i64 x3.NV),.d (.str x3.Name),.d (.sl (A0.rows x3.Kids)),.d (.sl (D0.rows d.Params)),.d (.sl (D0.rows d.Vars)),.d (.sl (C0.rows d.Body))] 75,.row [.d (.int .i64 0),.d (.str []),.d (.int .i64 0),.d (.int .i64 0),.d (.int .i64 0),.d (.int .i64 0),.d (.str []),.full (estr.rows []),.full (F0.rows []),.d (.int .i64 0),.d (.int .i64 0),.d (.int .i64 0),.d (.str []),.full (A0.rows []),.full (D0.rows []),.full (D0.rows []),.full (C0.rows [])] 75],[.row [.d (.str s)] 9,.row [.d (.str s1)] 9,.row [.clo 50 [.ref 0 0,.ref 1 0]] 92,.row [.d (.int .i64 d.Kind),.d (.str x1),.d (.int .i64 x2.Kind),.d (.int .i64 x2.Low),.d (.int .i64 x2.High),.d (.int .i64 x2.Size),.d (.str x2.Name),.d (.sl (estr.rows x2.Names)),.d (.sl (F0.rows x2.Of)),.d (.int .i64 d.Init),.d (.int .i64 x3.Op),.d (.int .i64 x3.NV),.d (.str x3.Name),.d (.sl (A0.rows x3.Kids)),.d (.sl (D0.rows d.Params)),.d (.sl (D0.rows d.Vars)),.d (.sl (C0.rows d.Body))] 75,.row [.d (.int .i64 0),.d (.str []),.d (.int .i64 0),.d (.int .i64 0),.d (.int .i64 0),.d (.int .i64 0),.d (.str []),.full (estr.rows []),.full (F0.rows []),.d (.int .i64 0),.d (.int .i64 0),.d (.int .i64 0),.d (.str []),.full (A0.rows []),.full (D0.rows []),.full (D0.rows []),.full (C0.rows [])] 75],[.row [.d (.str s)] 9,.row [.d (.str s1)] 9,.row [.clo 50 [.ref 0 0,.ref 1 0]] 92,.row [.d (.int .i64 d.Kind),.d (.str x1),.d (.int .i64 x2.Kind),.d (.int .i64 x2.Low),.d (.int .i64 x2.High),.d (.int .i64 x2.Size),.d (.str x2.Name),.d (.sl (estr.rows x2.Names)),.d (.sl (F0.rows x2.Of)),.d (.int .i64 d.Init),.d (.int .i64 x3.Op),.d (.int .i64 x3.NV),.d (.str x3.Name),.d (.sl (A0.rows x3.Kids)),.d (.sl (D0.rows d.Params)),.d (.sl (D0.rows d.Vars)),.d (.sl (C0.rows d.Body))] 75,.row [.d (.int .i64 0),.d (.str []),.d (.int .i64 0),.d (.int .i64 0),.d (.int .i64 0),.d (.int .i64 0),.d (.str []),.full (estr.rows []),.full (F0.rows []),.d (.int .i64 0),.d (.int .i64 0),.d (.int .i64 0),.d (.str []),.full (A0.rows []),.full (D0.rows []),.full (D0.rows []),.full (C0.rows [])] 75]] rfl rfl rfl rfl rfl rfl rfl rfl rfl rfl ?_
  refine AS.q hC rfl rfl rfl rfl (AS.q hC rfl rfl rfl rfl (AS.q hC rfl rfl rfl rfl (AS.q hC rfl rfl rfl rfl (AS.g [0,1] (ih0 _ _ hx4) rfl rfl rfl rfl rfl rfl rfl rfl rfl rfl rfl rfl (AS.q hC rfl rfl rfl rfl (AS.q hC rfl rfl rfl rfl (AS.q hC rfl rfl rfl rfl (AS.q hC rfl rfl rfl rfl (AS.g [0,1] (ih0 _ _ hx5) rfl rfl rfl rfl rfl rfl rfl rfl rfl rfl rfl rfl (AS.q hC rfl rfl rfl rfl (AS.nil (K0.s hC rfl (q' rfl ?_)))))))))))))
  exact K0.s hC rfl (n' (p' 4 rfl (g' [0,1] (Fn hx6) rfl rfl rfl rfl rfl rfl (q' rfl (K0.s hC rfl (n' (p' 1 rfl (K0.s hC rfl (n' (re' (rt' rfl rfl rfl)))))))))))
theorem Wv {l s s1 res}(hh:K3 l s s1=some res):Qn l s s1 res:=(Dv s s1).1 _ _ hh
def Ck (p:O0)(fromV:Str)(to:Str):Option (O0×Int):=
 Gh p>>=fun x1=>
 if (x1 != 0)=true then
  some ((O0.mk [] []),x1)
 else
  Q9 fromV>>=fun x2=>
  (if (!(!x2))=true then Q9 to else some default)>>=fun x3=>
  if (bif (!x2) then true else (!x3))=true then
   some ((O0.mk [] []),7)
  else
   (if (!(to == fromV))=true then Co p else some default)>>=fun x4=>
   (if (!(to == fromV))=true then I6 x4 to else some default)>>=fun x5=>
   if (bif (!(to == fromV)) then x5 else false)=true then
    some ((O0.mk [] []),8)
   else
    K3 p.Decls fromV to>>=fun x6=>
    O2 p.Body fromV to>>=fun x7=>
    some ((O0.mk x6 x7),0)
theorem Rz {p fromV to res}(hh:Ck p fromV to=some res):N0 C 16 [.agg (O0.cells p),.d (.str fromV),.d (.str to)] [] (Ret [] (.tup [.agg (O0.cells res.1),.d (.int .i64 res.2)])):=by
 unfold Ck at hh
 obtain ⟨x1,hx1,hh⟩:=bs' hh
 refine N0.intro hC Tryz.func16 rfl rfl rfl (s' rfl rfl (K0.n hC rfl (K0.n hC rfl (K0.n hC rfl (K0.nf hC rfl (e' rfl (S' (p' 1 rfl (c' (Z10 hx1) rfl rfl (e' rfl (t' rfl (ci' rfl hh (fun hh=>?_) (fun hh=>?_)))))))))))))
 ·cases hh
  exact p' 2 rfl (K0.s hC rfl (e' rfl (re' (rt' rfl rfl rfl))))
 obtain ⟨x2,hx2,hh⟩:=bs' hh
 obtain ⟨x3,hx3,hh⟩:=bs' hh
 refine sk' (S' (sg' 8 rfl (a0' rfl (AG.c rfl rfl (fun _=>trivial) (fun _=>Kq hx2) (G' 3 rfl (AG.c rfl rfl (fun hg=>⟨hg,trivial⟩) (fun hw=>Kq (L1 hw hx3)) (a1' rfl (po' rfl (an' (n' (ci' rfl hh (fun hh=>?_) (fun hh=>?_))))))))))))
 ·cases hh
  exact p' 1 rfl (K0.s hC rfl (e' rfl (re' (rt' rfl rfl rfl))))
 obtain ⟨x4,hx4,hh⟩:=bs' hh
 obtain ⟨x5,hx5,hh⟩:=bs' hh
 refine sk' (S' (S' (AEx.drawG hC 9 rfl rfl rfl (G' 5 rfl (AG.c rfl rfl (fun hg=>⟨hg,trivial⟩) (fun hw=>Y1d (L1 hw hx4)) (a0' rfl (AG.c rfl rfl (fun hg=>⟨hg,hg,trivial⟩) (fun hw=>Nq (L1 hw hx5)) (pa' rfl (an' (n' (ci' rfl hh (fun hh=>?_) (fun hh=>?_))))))))))))
 ·cases hh
  exact p' 1 rfl (K0.s hC rfl (e' rfl (re' (rt' rfl rfl rfl))))
 obtain ⟨x6,hx6,hh⟩:=bs' hh
 obtain ⟨x7,hx7,hh⟩:=bs' hh
 cases hh
 refine sk' (p' 2 rfl (K0.n hC rfl (K0.s hC rfl (n' (S' ?_)))))
 refine AEx.drawL hC 9 [4] [] [[.row (O0.cells p) 25,.row [.d (.str fromV)] 9,.row [.d (.str to)] 9,.row [.full (D0.rows []),.full (C0.rows [])] 25,.row [.clo 50 [.ref 1 0,.ref 2 0]] 92],[.row (O0.cells p) 25,.row [.d (.str fromV)] 9,.row [.d (.str to)] 9,.row [.full (D0.rows []),.full (C0.rows [])] 25,.row [.clo 50 [.ref 1 0,.ref 2 0]] 92]] rfl rfl rfl rfl rfl rfl rfl rfl rfl rfl ?_
 refine AS.q hC rfl rfl rfl rfl (AS.q hC rfl rfl rfl rfl (AS.q hC rfl rfl rfl rfl (AS.q hC rfl rfl rfl rfl (AS.g [1,2] (Wv hx6) rfl rfl rfl rfl rfl rfl rfl rfl rfl rfl rfl rfl (AS.q hC rfl rfl rfl rfl (AS.q hC rfl rfl rfl rfl (AS.q hC rfl rfl rfl rfl (AS.q hC rfl rfl rfl rfl (AS.nil (g' [1,2] (Fn hx7) rfl rfl rfl rfl rfl rfl (q' rfl (K0.s hC rfl (e' rfl ?_)))))))))))))
 exact re' (rt' rfl rfl rfl)
def Mk (name:Str)(fromV:Str)(to:Str):Option Str:=
 if (name == fromV)=true then
  some to
 else
  some name
theorem Fq {name fromV to res}(hh:Mk name fromV to=some res):N0 C 112 [.d (.str name),.d (.str fromV),.d (.str to)] [] (Ret [] (.d (.str res))):=by
 unfold Mk at hh
 refine N0.intro hC Tryz.func112 rfl rfl rfl (t' rfl (S' (t' rfl (ci' rfl hh (fun hh=>?_) (fun hh=>?_)))))
 ·cases hh
  exact t' rfl (re' (rt' rfl rfl rfl))
 cases hh
 exact sk' (t' rfl (re' (rt' rfl rfl rfl)))
mutual
def Zb (t:F0)(fromV:Str)(to:Str):Option F0:=
 if (t.Kind == 4)=true then
  Mk t.Name fromV to>>=fun x1=>
  Xf t fromV to x1
 else
  Xf t fromV to t.Name
 partial_fixpoint
def Xf (t:F0)(fromV:Str)(to:Str)(o2_Name:Str):Option F0:=
 Ab t fromV to o2_Name [] 0
 partial_fixpoint
def Ab (t:F0)(fromV:Str)(to:Str)(o2_Name:Str)(o2_Names:List Str)(i:Int):Option F0:=
 if (decide (i < ((t.Names).length:Int)))=true then
  idx t.Names i>>=fun x2=>
  if (decide ((o2_Names.length+1) * 17≤140737488355328))=true then
   Ab t fromV to o2_Name (o2_Names++[x2]) (IntKind.i64.wrap (i+1))
  else none
 else
  Cb t fromV to o2_Name o2_Names [] 0
 partial_fixpoint
def Cb (t:F0)(fromV:Str)(to:Str)(o2_Name:Str)(o2_Names:List Str)(o2_Of:List F0)(i1:Int):Option F0:=
 if (decide (i1 < ((t.Of).length:Int)))=true then
  idx t.Of i1>>=fun x3=>
  Zb x3 fromV to>>=fun x4=>
  if (decide ((o2_Of.length+1) * 97≤140737488355328))=true then
   Cb t fromV to o2_Name o2_Names (o2_Of++[x4]) (IntKind.i64.wrap (i1+1))
  else none
 else
  some (F0.mk t.Kind t.Low t.High t.Size o2_Name o2_Names o2_Of)
 partial_fixpoint
end
abbrev Ev (t:F0)(fromV:Str)(to:Str)(res:F0):Prop:=N0 C 113 [.agg (F0.cells t),.d (.str fromV),.d (.str to)] [] (Ret [] (.agg (F0.cells res)))
abbrev N13 (t:F0)(fromV:Str)(to:Str)(o2_Name:Str)(res:F0):Prop:=JM C 68 0 Tryz.f113 [1,1,1] [(1,.d (.str fromV)),(2,.d (.str to)),(3,.ref 0 0),(6,.ref 1 0),(7,.ref 2 0)] [.row (F0.cells t) 48,.row [.d (.int .i64 0),.d (.int .i64 0),.d (.int .i64 0),.d (.int .i64 0),.d (.str []),.full (estr.rows []),.full (F0.rows [])] 48,.row [.d (.int .i64 t.Kind),.d (.int .i64 t.Low),.d (.int .i64 t.High),.d (.int .i64 t.Size),.d (.str o2_Name),.osl 3 (estr.rows []),.osl 4 (F0.rows [])] 48,.tok 9 1,.tok 48 7] (Ret [] (.agg (F0.cells res)))
abbrev O13 (t:F0)(fromV:Str)(to:Str)(o2_Name:Str)(o2_Names:List Str)(i:Int)(res:F0):Prop:=LM C 68 0 Tryz.f113 [1,1,1,0,1,4] [(1,.d (.str fromV)),(2,.d (.str to)),(3,.ref 0 0),(6,.ref 1 0),(7,.ref 2 0),(8,.d (.int .i64 i))] [.row (F0.cells t) 48,.row [.d (.int .i64 0),.d (.int .i64 0),.d (.int .i64 0),.d (.int .i64 0),.d (.str []),.full (estr.rows []),.full (F0.rows [])] 48,.row [.d (.int .i64 t.Kind),.d (.int .i64 t.Low),.d (.int .i64 t.High),.d (.int .i64 t.Size),.d (.str o2_Name),.osl 3 (estr.rows o2_Names),.osl 4 (F0.rows [])] 48,.tok 9 1,.tok 48 7] (Ret [] (.agg (F0.cells res)))
abbrev P13 (t:F0)(fromV:Str)(to:Str)(o2_Name:Str)(o2_Names:List Str)(o2_Of:List F0)(i1:Int)(res:F0):Prop:=LM C 68 0 Tryz.f113 [1,1,1,1,0,1,4] [(1,.d (.str fromV)),(2,.d (.str to)),(3,.ref 0 0),(6,.ref 1 0),(7,.ref 2 0),(9,.d (.int .i64 i1))] [.row (F0.cells t) 48,.row [.d (.int .i64 0),.d (.int .i64 0),.d (.int .i64 0),.d (.int .i64 0),.d (.str []),.full (estr.rows []),.full (F0.rows [])] 48,.row [.d (.int .i64 t.Kind),.d (.int .i64 t.Low),.d (.int .i64 t.High),.d (.int .i64 t.Size),.d (.str o2_Name),.osl 3 (estr.rows o2_Names),.osl 4 (F0.rows o2_Of)] 48,.tok 9 1,.tok 48 7] (Ret [] (.agg (F0.cells res)))
theorem U15 (fromV:Str)(to:Str):(∀ t res,Zb t fromV to=some res→Ev t fromV to res)∧(∀ t o2_Name res,Xf t fromV to o2_Name=some res→N13 t fromV to o2_Name res)∧(∀ t o2_Name o2_Names i res,Ab t fromV to o2_Name o2_Names i=some res→O13 t fromV to o2_Name o2_Names i res)∧(∀ t o2_Name o2_Names o2_Of i1 res,Cb t fromV to o2_Name o2_Names o2_Of i1=some res→P13 t fromV to o2_Name o2_Names o2_Of i1 res):=by
 refine Zb.mutual_partial_correctness fromV to _ _ _ _ ?_ ?_ ?_ ?_
 ·intro g1 ih1 t res hh
  refine N0.intro hC Tryz.func113 rfl rfl rfl (s' rfl rfl (K0.n hC rfl (K0.nf hC rfl (n' (p' 10 rfl (K0.bz hC rfl (K0.nf hC rfl (K0.s hC rfl (K0.tokC 2 5 9 1 rfl rfl rfl rfl rfl (K0.tokC 2 6 48 7 rfl rfl rfl rfl rfl (n' (S' (t' rfl (ci' rfl hh (fun hh=>?_) (fun hh=>?_)))))))))))))))
  ·obtain ⟨x1,hx1,hh⟩:=bs' hh
   exact P' 4 rfl (c' (Fq hx1) rfl rfl (q' rfl (K0.s hC rfl (n' (ew' (ih1 _ _ _ hh) rfl rfl rfl)))))
  exact sk' (ew' (ih1 _ _ _ hh) rfl rfl rfl)
 ·intro g2 ih2 t o2_Name res hh
  exact S' (t' rfl (bk' (fw' (ih2 _ _ _ _ _ hh) rfl rfl rfl)))
 ·intro g2 g3 ih2 ih3 t o2_Name o2_Names i res hh
  refine Y0.unroll (S' (p' 3 rfl (qe' rfl trivial (estr.lenA _) (e' rfl (ci' rfl hh (fun hh=>?_) (fun hh=>?_))))))
  ·obtain ⟨x2,hx2,hh⟩:=bs' hh
   obtain ⟨c15,hh⟩:=U0 hh
   exact sk' (S' (bk' (AEx.draw hC 8 rfl rfl rfl (O' 5 rfl (AQ.i hC rfl (S0 hx2) (estr.idx hx2) rfl (Q' rfl (AQ.be hC rfl (estr.rows_map [x2]).symm (Qn' (K0.ap hC rfl (rs:=estr.rows (o2_Names++[x2])) (estr.app o2_Names [x2]) (estr.sz o2_Names) (estr.sz [x2]) (T2 (estr.len o2_Names) (estr.len [x2]) c15) (q' rfl (K0.s hC rfl (n' (T' rfl (lw' (ih2 _ _ _ _ _ hh) rfl rfl rfl))))))))))))))
  exact ex' (S' (t' rfl (bk' (fw' (ih3 _ _ _ _ _ _ hh) rfl rfl rfl))))
 ·intro g0 g3 ih0 ih3 t o2_Name o2_Names o2_Of i1 res hh
  refine Y0.unroll (S' (p' 3 rfl (qe' rfl trivial (F0.lenA _) (e' rfl (ci' rfl hh (fun hh=>?_) (fun hh=>?_))))))
  ·obtain ⟨x3,hx3,hh⟩:=bs' hh
   obtain ⟨x4,hx4,hh⟩:=bs' hh
   obtain ⟨c16,hh⟩:=U0 hh
   refine sk' (S' (bk' (AEx.draw hC 11 rfl rfl rfl (O' 5 rfl (AQ.i hC rfl (S0 hx3) (F0.idx hx3) rfl (O' 3 rfl (Qc' (ih0 _ _ hx4) rfl rfl (AQ.be hC rfl (F0.rows_map [x4]).symm (Qn' (K0.ap hC rfl (rs:=F0.rows (o2_Of++[x4])) (F0.app o2_Of [x4]) (F0.sz o2_Of) (F0.sz [x4]) (T2 (F0.len o2_Of) (F0.len [x4]) c16) (q' rfl (K0.s hC rfl (n' ?_)))))))))))))
   exact T' rfl (lw' (ih3 _ _ _ _ _ _ hh) rfl rfl rfl)
  refine ex' (p' 1 rfl (K0.s hC rfl (n' (re' ?_))))
  obtain rfl:=oi' hh
  exact ⟨_,.agg [.d (.int .i64 t.Kind),.d (.int .i64 t.Low),.d (.int .i64 t.High),.d (.int .i64 t.Size),.d (.str o2_Name),.d (.sl (estr.rows o2_Names)),.d (.sl (F0.rows o2_Of))],[],rfl,(.aggL ⟨.rfl,.rfl,.rfl,.rfl,.rfl,.osl,.osl,trivial⟩),trivial,rfl,rfl,rfl,rfl⟩
theorem X17 {t fromV to res}(hh:Zb t fromV to=some res):Ev t fromV to res:=(U15 fromV to).1 _ _ hh
mutual
def G6 (e:A0)(fromV:Str)(to:Str):Option A0:=
 if (e.Op == 3)=true then
  Mk e.Name fromV to>>=fun x1=>
  Yf e fromV to x1
 else
  Yf e fromV to e.Name
 partial_fixpoint
def Yf (e:A0)(fromV:Str)(to:Str)(o2_Name:Str):Option A0:=
 Db e fromV to o2_Name [] 0
 partial_fixpoint
def Db (e:A0)(fromV:Str)(to:Str)(o2_Name:Str)(o2_Kids:List A0)(i:Int):Option A0:=
 if (decide (i < ((e.Kids).length:Int)))=true then
  idx e.Kids i>>=fun x2=>
  G6 x2 fromV to>>=fun x3=>
  if (decide ((o2_Kids.length+1) * 57≤140737488355328))=true then
   Db e fromV to o2_Name (o2_Kids++[x3]) (IntKind.i64.wrap (i+1))
  else none
 else
  some (A0.mk e.Op e.NV o2_Name o2_Kids)
 partial_fixpoint
end
abbrev Fv (e:A0)(fromV:Str)(to:Str)(res:A0):Prop:=N0 C 114 [.agg (A0.cells e),.d (.str fromV),.d (.str to)] [] (Ret [] (.agg (A0.cells res)))
abbrev Q13 (e:A0)(fromV:Str)(to:Str)(o2_Name:Str)(res:A0):Prop:=JM C 46 0 Tryz.f114 [1,1,1] [(1,.d (.str fromV)),(2,.d (.str to)),(3,.ref 0 0),(6,.ref 1 0),(7,.ref 2 0)] [.row (A0.cells e) 40,.row [.d (.int .i64 0),.d (.int .i64 0),.d (.str []),.full (A0.rows [])] 40,.row [.d (.int .i64 e.Op),.d (.int .i64 e.NV),.d (.str o2_Name),.osl 3 (A0.rows [])] 40,.tok 40 4] (Ret [] (.agg (A0.cells res)))
abbrev R13 (e:A0)(fromV:Str)(to:Str)(o2_Name:Str)(o2_Kids:List A0)(i:Int)(res:A0):Prop:=LM C 46 0 Tryz.f114 [1,1,1,0,1,4] [(1,.d (.str fromV)),(2,.d (.str to)),(3,.ref 0 0),(6,.ref 1 0),(7,.ref 2 0),(8,.d (.int .i64 i))] [.row (A0.cells e) 40,.row [.d (.int .i64 0),.d (.int .i64 0),.d (.str []),.full (A0.rows [])] 40,.row [.d (.int .i64 e.Op),.d (.int .i64 e.NV),.d (.str o2_Name),.osl 3 (A0.rows o2_Kids)] 40,.tok 40 4] (Ret [] (.agg (A0.cells res)))
theorem V15 (fromV:Str)(to:Str):(∀ e res,G6 e fromV to=some res→Fv e fromV to res)∧(∀ e o2_Name res,Yf e fromV to o2_Name=some res→Q13 e fromV to o2_Name res)∧(∀ e o2_Name o2_Kids i res,Db e fromV to o2_Name o2_Kids i=some res→R13 e fromV to o2_Name o2_Kids i res):=by
 refine G6.mutual_partial_correctness fromV to _ _ _ ?_ ?_ ?_
 ·intro g1 ih1 e res hh
  refine N0.intro hC Tryz.func114 rfl rfl rfl (s' rfl rfl (K0.n hC rfl (K0.nf hC rfl (n' (p' 6 rfl (K0.bz hC rfl (K0.nf hC rfl (K0.s hC rfl (K0.tokC 2 3 40 4 rfl rfl rfl rfl rfl (n' (S' (t' rfl (ci' rfl hh (fun hh=>?_) (fun hh=>?_))))))))))))))
  ·obtain ⟨x1,hx1,hh⟩:=bs' hh
   exact P' 4 rfl (c' (Fq hx1) rfl rfl (q' rfl (K0.s hC rfl (n' (ew' (ih1 _ _ _ hh) rfl rfl rfl)))))
  exact sk' (ew' (ih1 _ _ _ hh) rfl rfl rfl)
 ·intro g2 ih2 e o2_Name res hh
  exact S' (t' rfl (bk' (fw' (ih2 _ _ _ _ _ hh) rfl rfl rfl)))
 ·intro g0 g2 ih0 ih2 e o2_Name o2_Kids i res hh
  refine Y0.unroll (S' (p' 3 rfl (qe' rfl trivial (A0.lenA _) (e' rfl (ci' rfl hh (fun hh=>?_) (fun hh=>?_))))))
  ·obtain ⟨x2,hx2,hh⟩:=bs' hh
   obtain ⟨x3,hx3,hh⟩:=bs' hh
   obtain ⟨c6,hh⟩:=U0 hh
   refine sk' (S' (bk' (AEx.draw hC 11 rfl rfl rfl (O' 5 rfl (AQ.i hC rfl (S0 hx2) (A0.idx hx2) rfl (O' 3 rfl (Qc' (ih0 _ _ hx3) rfl rfl (AQ.be hC rfl (A0.rows_map [x3]).symm (Qn' (K0.ap hC rfl (rs:=A0.rows (o2_Kids++[x3])) (A0.app o2_Kids [x3]) (A0.sz o2_Kids) (A0.sz [x3]) (T2 (A0.len o2_Kids) (A0.len [x3]) c6) (q' rfl (K0.s hC rfl (n' ?_)))))))))))))
   exact T' rfl (lw' (ih2 _ _ _ _ _ hh) rfl rfl rfl)
  refine ex' (p' 1 rfl (K0.s hC rfl (n' (re' ?_))))
  obtain rfl:=oi' hh
  exact ⟨_,.agg [.d (.int .i64 e.Op),.d (.int .i64 e.NV),.d (.str o2_Name),.d (.sl (A0.rows o2_Kids))],[],rfl,(.aggL ⟨.rfl,.rfl,.rfl,.osl,trivial⟩),trivial,rfl,rfl,rfl,rfl⟩
theorem Rj {e fromV to res}(hh:G6 e fromV to=some res):Fv e fromV to res:=(V15 fromV to).1 _ _ hh
mutual
def D5 (l:List C0)(fromV:Str)(to:Str):Option (List C0):=
 Y9 l fromV to [] 0
 partial_fixpoint
def Y9 (l:List C0)(fromV:Str)(to:Str)(out:List C0)(i:Int):Option (List C0):=
 if (decide (i < ((l).length:Int)))=true then
  idx l i>>=fun x1=>
  G6 x1.Place fromV to>>=fun x2=>
  G6 x1.Value fromV to>>=fun x3=>
  D5 x1.Then fromV to>>=fun x4=>
  D5 x1.Else fromV to>>=fun x5=>
  Hg x1.Verb>>=fun x6=>
  if x6=true then
   Mk x1.Name fromV to>>=fun x7=>
   Sd l fromV to x1 x2 x3 x7 x4 x5 out i
  else
   Sd l fromV to x1 x2 x3 x1.Name x4 x5 out i
 else
  some out
 partial_fixpoint
def Sd (l:List C0)(fromV:Str)(to:Str)(x1:C0)(x2:A0)(x3:A0)(o2_Name:Str)(x4:List C0)(x5:List C0)(out1:List C0)(i1:Int):Option (List C0):=
 Z9 l fromV to x1 x2 x3 o2_Name [] x4 x5 out1 i1 0
 partial_fixpoint
def Z9 (l:List C0)(fromV:Str)(to:Str)(x1:C0)(x2:A0)(x3:A0)(o2_Name:Str)(o2_Args:List A0)(x4:List C0)(x5:List C0)(out2:List C0)(i2:Int)(k:Int):Option (List C0):=
 if (decide (k < ((x1.Args).length:Int)))=true then
  idx x1.Args k>>=fun x8=>
  G6 x8 fromV to>>=fun x9=>
  if (decide ((o2_Args.length+1) * 57≤140737488355328))=true then
   Z9 l fromV to x1 x2 x3 o2_Name (o2_Args++[x9]) x4 x5 out2 i2 (IntKind.i64.wrap (k+1))
  else none
 else
  Aa l fromV to x1 x2 x3 o2_Name o2_Args [] x4 x5 out2 i2 0
 partial_fixpoint
def Aa (l:List C0)(fromV:Str)(to:Str)(x1:C0)(x2:A0)(x3:A0)(o2_Name:Str)(o2_Args:List A0)(o2_Numbers:List Int)(x4:List C0)(x5:List C0)(out3:List C0)(i3:Int)(k1:Int):Option (List C0):=
 if (decide (k1 < ((x1.Numbers).length:Int)))=true then
  idx x1.Numbers k1>>=fun x10=>
  if (decide ((o2_Numbers.length+1) * 9≤140737488355328))=true then
   Aa l fromV to x1 x2 x3 o2_Name o2_Args (o2_Numbers++[x10]) x4 x5 out3 i3 (IntKind.i64.wrap (k1+1))
  else none
 else
  if (decide ((out3.length+1) * 257≤140737488355328))=true then
   Y9 l fromV to (out3++[(C0.mk x1.Verb x2 x3 o2_Name o2_Args x1.NV x1.Low x1.High o2_Numbers x4 x5)]) (IntKind.i64.wrap (i3+1))
  else none
 partial_fixpoint
end
abbrev Ys (l:List C0)(fromV:Str)(to:Str)(res:List C0):Prop:=N0 C 57 [.d (.sl (C0.rows l)),.d (.str fromV),.d (.str to)] [] (Ret [] (.d (.sl (C0.rows res))))
abbrev B12 (l:List C0)(fromV:Str)(to:Str)(out:List C0)(i:Int)(res:List C0):Prop:=LM C 106 0 Tryz.f57 [1,1,0,1,4] [(0,.d (.sl (C0.rows l))),(1,.d (.str fromV)),(2,.d (.str to)),(7,.osl 0 (C0.rows out)),(8,.d (.int .i64 i))] [.tok 79 17] (Ret [] (.d (.sl (C0.rows res))))
abbrev C12 (l:List C0)(fromV:Str)(to:Str)(x1:C0)(x2:A0)(x3:A0)(o2_Name:Str)(x4:List C0)(x5:List C0)(out1:List C0)(i1:Int)(res:List C0):Prop:=JM C 106 0 Tryz.f57 [1,1,0,1,4,5,1,0,4,1,1,1] [(0,.d (.sl (C0.rows l))),(1,.d (.str fromV)),(2,.d (.str to)),(7,.osl 0 (C0.rows out1)),(8,.d (.int .i64 i1)),(9,.ref 1 0),(10,.ref 2 0)] [.tok 79 17,.row (C0.cells x1) 79,.row [.d (.int .i64 x1.Verb),.d (.int .i64 x2.Op),.d (.int .i64 x2.NV),.d (.str x2.Name),.d (.sl (A0.rows x2.Kids)),.d (.int .i64 x3.Op),.d (.int .i64 x3.NV),.d (.str x3.Name),.d (.sl (A0.rows x3.Kids)),.d (.str o2_Name),.osl 3 (A0.rows []),.d (.int .i64 x1.NV),.d (.int .i64 x1.Low),.d (.int .i64 x1.High),.osl 4 (ei64.rows []),.d (.sl (C0.rows x4)),.d (.sl (C0.rows x5))] 79,.tok 40 4,.tok 3 1] (Ret [] (.d (.sl (C0.rows res))))
abbrev D12 (l:List C0)(fromV:Str)(to:Str)(x1:C0)(x2:A0)(x3:A0)(o2_Name:Str)(o2_Args:List A0)(x4:List C0)(x5:List C0)(out2:List C0)(i2:Int)(k:Int)(res:List C0):Prop:=LM C 106 0 Tryz.f57 [1,1,0,1,4,5,1,0,4,1,1,1,0,1,4] [(0,.d (.sl (C0.rows l))),(1,.d (.str fromV)),(2,.d (.str to)),(7,.osl 0 (C0.rows out2)),(8,.d (.int .i64 i2)),(9,.ref 1 0),(10,.ref 2 0),(11,.d (.int .i64 k))] [.tok 79 17,.row (C0.cells x1) 79,.row [.d (.int .i64 x1.Verb),.d (.int .i64 x2.Op),.d (.int .i64 x2.NV),.d (.str x2.Name),.d (.sl (A0.rows x2.Kids)),.d (.int .i64 x3.Op),.d (.int .i64 x3.NV),.d (.str x3.Name),.d (.sl (A0.rows x3.Kids)),.d (.str o2_Name),.osl 3 (A0.rows o2_Args),.d (.int .i64 x1.NV),.d (.int .i64 x1.Low),.d (.int .i64 x1.High),.osl 4 (ei64.rows []),.d (.sl (C0.rows x4)),.d (.sl (C0.rows x5))] 79,.tok 40 4,.tok 3 1] (Ret [] (.d (.sl (C0.rows res))))
abbrev E12 (l:List C0)(fromV:Str)(to:Str)(x1:C0)(x2:A0)(x3:A0)(o2_Name:Str)(o2_Args:List A0)(o2_Numbers:List Int)(x4:List C0)(x5:List C0)(out3:List C0)(i3:Int)(k1:Int)(res:List C0):Prop:=LM C 106 0 Tryz.f57 [1,1,0,1,4,5,1,0,4,1,1,1,1,0,1,4] [(0,.d (.sl (C0.rows l))),(1,.d (.str fromV)),(2,.d (.str to)),(7,.osl 0 (C0.rows out3)),(8,.d (.int .i64 i3)),(9,.ref 1 0),(10,.ref 2 0),(12,.d (.int .i64 k1))] [.tok 79 17,.row (C0.cells x1) 79,.row [.d (.int .i64 x1.Verb),.d (.int .i64 x2.Op),.d (.int .i64 x2.NV),.d (.str x2.Name),.d (.sl (A0.rows x2.Kids)),.d (.int .i64 x3.Op),.d (.int .i64 x3.NV),.d (.str x3.Name),.d (.sl (A0.rows x3.Kids)),.d (.str o2_Name),.osl 3 (A0.rows o2_Args),.d (.int .i64 x1.NV),.d (.int .i64 x1.Low),.d (.int .i64 x1.High),.osl 4 (ei64.rows o2_Numbers),.d (.sl (C0.rows x4)),.d (.sl (C0.rows x5))] 79,.tok 40 4,.tok 3 1] (Ret [] (.d (.sl (C0.rows res))))
theorem S13 (fromV:Str)(to:Str):(∀ l res,D5 l fromV to=some res→Ys l fromV to res)∧(∀ l out i res,Y9 l fromV to out i=some res→B12 l fromV to out i res)∧(∀ l x1 x2 x3 o2_Name x4 x5 out1 i1 res,Sd l fromV to x1 x2 x3 o2_Name x4 x5 out1 i1=some res→C12 l fromV to x1 x2 x3 o2_Name x4 x5 out1 i1 res)∧(∀ l x1 x2 x3 o2_Name o2_Args x4 x5 out2 i2 k res,Z9 l fromV to x1 x2 x3 o2_Name o2_Args x4 x5 out2 i2 k=some res→D12 l fromV to x1 x2 x3 o2_Name o2_Args x4 x5 out2 i2 k res)∧(∀ l x1 x2 x3 o2_Name o2_Args o2_Numbers x4 x5 out3 i3 k1 res,Aa l fromV to x1 x2 x3 o2_Name o2_Args o2_Numbers x4 x5 out3 i3 k1=some res→E12 l fromV to x1 x2 x3 o2_Name o2_Args o2_Numbers x4 x5 out3 i3 k1 res):=by
 refine D5.mutual_partial_correctness fromV to _ _ _ _ _ ?_ ?_ ?_ ?_ ?_
 ·intro g1 ih1 l res hh
  exact N0.intro hC Tryz.func57 rfl rfl rfl (t' rfl (s' rfl rfl (K0.be hC rfl (C0.rows_map []).symm (K0.tokE 13 79 17 rfl (e' rfl (S' (t' rfl (bk' (fw' (ih1 _ _ _ _ hh) rfl rfl rfl)))))))))
 ·intro g0 g2 ih0 ih2 l out i res hh
  refine Y0.unroll (S' (p' 2 rfl (qe' rfl trivial (C0.lenA _) (e' rfl (ci' rfl hh (fun hh=>?_) (fun hh=>?_))))))
  ·obtain ⟨x1,hx1,hh⟩:=bs' hh
   obtain ⟨x2,hx2,hh⟩:=bs' hh
   obtain ⟨x3,hx3,hh⟩:=bs' hh
   obtain ⟨x4,hx4,hh⟩:=bs' hh
   obtain ⟨x5,hx5,hh⟩:=bs' hh
   obtain ⟨x6,hx6,hh⟩:=bs' hh
   refine sk' (S' (bk' (p' 2 rfl (i' rfl (S0 hx1) (C0.idx hx1) rfl (q' rfl (K0.nf hC rfl (K0.s hC rfl (n' (S' ?_)))))))))
   refine AEx.drawL hC 32 [] [(31,2)] [[.tok 79 17,.row (C0.cells x1) 79,.row [.d (.int .i64 0),.d (.int .i64 0),.d (.int .i64 0),.d (.str []),.full (A0.rows []),.d (.int .i64 0),.d (.int .i64 0),.d (.str []),.full (A0.rows []),.d (.str []),.full (A0.rows []),.d (.int .i64 0),.d (.int .i64 0),.d (.int .i64 0),.full (ei64.rows []),.full (C0.rows []),.full (C0.rows [])] 79]] rfl rfl rfl rfl rfl rfl rfl rfl rfl rfl ?_
   iterate 6 refine AS.q hC rfl rfl rfl rfl ?_
   refine AS.c (Rj hx2) rfl rfl rfl rfl (AS.q hC rfl rfl rfl rfl (AS.q hC rfl rfl rfl rfl (AS.q hC rfl rfl rfl rfl (AS.q hC rfl rfl rfl rfl (AS.c (Rj hx3) rfl rfl rfl rfl (AS.q hC rfl rfl rfl rfl (AS.q hC rfl rfl rfl rfl (AS.q hC rfl rfl rfl rfl (AS.q hC rfl rfl rfl rfl (AS.q hC rfl rfl rfl rfl (AS.q hC rfl rfl rfl rfl (AS.q hC rfl rfl rfl rfl (AS.q hC rfl rfl rfl rfl ?_)))))))))))))
   refine AS.q hC rfl rfl rfl rfl (AS.q hC rfl rfl rfl rfl (AS.q hC rfl rfl rfl rfl (AS.q hC rfl rfl rfl rfl (AS.c (ih0 _ _ hx4) rfl rfl rfl rfl (AS.q hC rfl rfl rfl rfl (AS.q hC rfl rfl rfl rfl (AS.q hC rfl rfl rfl rfl (AS.q hC rfl rfl rfl rfl (AS.c (ih0 _ _ hx5) rfl rfl rfl rfl (AS.a rfl (fun H=>AQ.bz hC rfl (AQ.nil rfl)) rfl rfl (AS.n hC rfl rfl rfl rfl (AS.nil (K0.s hC rfl ?_)))))))))))))
   refine K0.tokC 2 10 40 4 rfl rfl rfl rfl rfl (K0.tokC 2 14 3 1 rfl rfl rfl rfl rfl (n' (S' (p' 2 rfl (c' (Jl hx6) rfl rfl (n' (ci' rfl hh (fun hh=>?_) (fun hh=>?_))))))))
   ·obtain ⟨x7,hx7,hh⟩:=bs' hh
    exact P' 4 rfl (c' (Fq hx7) rfl rfl (q' rfl (K0.s hC rfl (n' (ew' (ih2 _ _ _ _ _ _ _ _ _ _ hh) rfl rfl rfl)))))
   exact sk' (ew' (ih2 _ _ _ _ _ _ _ _ _ _ hh) rfl rfl rfl)
  refine ex' (t' rfl (re' ?_))
  obtain rfl:=oi' hh
  exact ⟨_,.d (.sl (C0.rows out)),[],rfl,.osl,trivial,rfl,rfl,rfl,rfl⟩
 ·intro g3 ih3 l x1 x2 x3 o2_Name x4 x5 out1 i1 res hh
  exact S' (t' rfl (bk' (fw' (ih3 _ _ _ _ _ _ _ _ _ _ _ _ hh) rfl rfl rfl)))
 ·intro g3 g4 ih3 ih4 l x1 x2 x3 o2_Name o2_Args x4 x5 out2 i2 k res hh
  refine Y0.unroll (S' (p' 3 rfl (qe' rfl trivial (A0.lenA _) (e' rfl (ci' rfl hh (fun hh=>?_) (fun hh=>?_))))))
  ·obtain ⟨x8,hx8,hh⟩:=bs' hh
   obtain ⟨x9,hx9,hh⟩:=bs' hh
   obtain ⟨c27,hh⟩:=U0 hh
   refine sk' (S' (bk' (AEx.draw hC 11 rfl rfl rfl (O' 5 rfl (AQ.i hC rfl (S0 hx8) (A0.idx hx8) rfl (O' 3 rfl (Qc' (Rj hx9) rfl rfl (AQ.be hC rfl (A0.rows_map [x9]).symm (Qn' (K0.ap hC rfl (rs:=A0.rows (o2_Args++[x9])) (A0.app o2_Args [x9]) (A0.sz o2_Args) (A0.sz [x9]) (T2 (A0.len o2_Args) (A0.len [x9]) c27) (q' rfl (K0.s hC rfl (n' ?_)))))))))))))
   exact T' rfl (lw' (ih3 _ _ _ _ _ _ _ _ _ _ _ _ hh) rfl rfl rfl)
  exact ex' (S' (t' rfl (bk' (fw' (ih4 _ _ _ _ _ _ _ _ _ _ _ _ _ hh) rfl rfl rfl))))
 ·intro g1 g4 ih1 ih4 l x1 x2 x3 o2_Name o2_Args o2_Numbers x4 x5 out3 i3 k1 res hh
  refine Y0.unroll (S' (p' 3 rfl (qe' rfl trivial (ei64.lenA _) (e' rfl (ci' rfl hh (fun hh=>?_) (fun hh=>?_))))))
  ·obtain ⟨x10,hx10,hh⟩:=bs' hh
   obtain ⟨c28,hh⟩:=U0 hh
   exact sk' (S' (bk' (AEx.draw hC 8 rfl rfl rfl (O' 5 rfl (AQ.i hC rfl (S0 hx10) (ei64.idx hx10) rfl (Q' rfl (AQ.be hC rfl (ei64.rows_map [x10]).symm (Qn' (K0.ap hC rfl (rs:=ei64.rows (o2_Numbers++[x10])) (ei64.app o2_Numbers [x10]) (ei64.sz o2_Numbers) (ei64.sz [x10]) (T2 (ei64.len o2_Numbers) (ei64.len [x10]) c28) (q' rfl (K0.s hC rfl (n' (T' rfl (lw' (ih4 _ _ _ _ _ _ _ _ _ _ _ _ _ hh) rfl rfl rfl))))))))))))))
  obtain ⟨c29,hh⟩:=U0 hh
  refine ex' (P' 2 rfl (K0.be hC rfl (C0.rows_map [(C0.mk x1.Verb x2 x3 o2_Name o2_Args x1.NV x1.Low x1.High o2_Numbers x4 x5)]).symm ?_))
  refine K0.ap hC rfl (rs:=C0.rows (out3++[(C0.mk x1.Verb x2 x3 o2_Name o2_Args x1.NV x1.Low x1.High o2_Numbers x4 x5)])) (C0.app out3 [(C0.mk x1.Verb x2 x3 o2_Name o2_Args x1.NV x1.Low x1.High o2_Numbers x4 x5)]) (C0.sz out3) (C0.sz [(C0.mk x1.Verb x2 x3 o2_Name o2_Args x1.NV x1.Low x1.High o2_Numbers x4 x5)]) (T2 (C0.len out3) (C0.len [(C0.mk x1.Verb x2 x3 o2_Name o2_Args x1.NV x1.Low x1.High o2_Numbers x4 x5)]) c29) ?_
  exact e' rfl (T' rfl (lw' (ih1 _ _ _ _ hh) rfl rfl rfl))
theorem Yr {l fromV to res}(hh:D5 l fromV to=some res):Ys l fromV to res:=(S13 fromV to).1 _ _ hh
end Go.Proofs.YtbmlpamppbcdeaaGreatDoor

set_option maxRecDepth 100000
set_option maxHeartbeats 4000000
set_option synthInstance.maxSize 20000
set_option linter.unusedVariables false
namespace Go.Proofs.YtbmlpamppbcdeaaGreatDoor
open Go.Am
mutual
def I8 (l:List D0)(fromV:Str)(to:Str):Option (List D0):=
 Ca l fromV to [] 0
 partial_fixpoint
def Ca (l:List D0)(fromV:Str)(to:Str)(out:List D0)(i:Int):Option (List D0):=
 if (decide (i < ((l).length:Int)))=true then
  idx l i>>=fun x1=>
  Mk x1.Name fromV to>>=fun x2=>
  Zb x1.TypeV fromV to>>=fun x3=>
  G6 x1.Value fromV to>>=fun x4=>
  I8 x1.Params fromV to>>=fun x5=>
  I8 x1.Vars fromV to>>=fun x6=>
  D5 x1.Body fromV to>>=fun x7=>
  if (decide ((out.length+1) * 257≤140737488355328))=true then
   Ca l fromV to (out++[(D0.mk x1.Kind x2 x3 x1.Init x4 x5 x6 x7)]) (IntKind.i64.wrap (i+1))
  else none
 else
  some out
 partial_fixpoint
end
abbrev Zs (l:List D0)(fromV:Str)(to:Str)(res:List D0):Prop:=N0 C 56 [.d (.sl (D0.rows l)),.d (.str fromV),.d (.str to)] [] (Ret [] (.d (.sl (D0.rows res))))
abbrev F12 (l:List D0)(fromV:Str)(to:Str)(out:List D0)(i:Int)(res:List D0):Prop:=LM C 60 0 Tryz.f56 [1,1,0,1,4] [(0,.d (.sl (D0.rows l))),(1,.d (.str fromV)),(2,.d (.str to)),(7,.osl 0 (D0.rows out)),(8,.d (.int .i64 i))] [.tok 75 17] (Ret [] (.d (.sl (D0.rows res))))
theorem T13 (fromV:Str)(to:Str):(∀ l res,I8 l fromV to=some res→Zs l fromV to res)∧(∀ l out i res,Ca l fromV to out i=some res→F12 l fromV to out i res):=by
 refine I8.mutual_partial_correctness fromV to _ _ ?_ ?_
 ·intro g1 ih1 l res hh
  exact N0.intro hC Tryz.func56 rfl rfl rfl (t' rfl (s' rfl rfl (K0.be hC rfl (D0.rows_map []).symm (K0.tokE 10 75 17 rfl (e' rfl (S' (t' rfl (bk' (fw' (ih1 _ _ _ _ hh) rfl rfl rfl)))))))))
 ·intro g0 g1 ih0 ih1 l out i res hh
  refine Y0.unroll (S' (p' 2 rfl (qe' rfl trivial (D0.lenA _) (e' rfl (ci' rfl hh (fun hh=>?_) (fun hh=>?_))))))
  ·obtain ⟨x1,hx1,hh⟩:=bs' hh
   obtain ⟨x2,hx2,hh⟩:=bs' hh
   obtain ⟨x3,hx3,hh⟩:=bs' hh
   obtain ⟨x4,hx4,hh⟩:=bs' hh
   obtain ⟨x5,hx5,hh⟩:=bs' hh
   obtain ⟨x6,hx6,hh⟩:=bs' hh
   obtain ⟨x7,hx7,hh⟩:=bs' hh
   obtain ⟨c6,hh⟩:=U0 hh
   refine sk' (S' (bk' (p' 2 rfl (i' rfl (S0 hx1) (D0.idx hx1) rfl (q' rfl (K0.nf hC rfl (K0.s hC rfl (n' (AEx.draw hC 37 rfl rfl rfl (O' 7 rfl (Qc' (Fq hx2) rfl rfl (O' 4 rfl (Qc' (X17 hx3) rfl rfl ?_)))))))))))))
   refine O' 6 rfl (Qc' (Rj hx4) rfl rfl (O' 4 rfl (Qc' (ih0 _ _ hx5) rfl rfl (O' 4 rfl (Qc' (ih0 _ _ hx6) rfl rfl (O' 4 rfl (Qc' (Yr hx7) rfl rfl (Q' rfl (AQ.be hC rfl (D0.rows_map [(D0.mk x1.Kind x2 x3 x1.Init x4 x5 x6 x7)]).symm (Qn' ?_))))))))))
   exact K0.ap hC rfl (rs:=D0.rows (out++[(D0.mk x1.Kind x2 x3 x1.Init x4 x5 x6 x7)])) (D0.app out [(D0.mk x1.Kind x2 x3 x1.Init x4 x5 x6 x7)]) (D0.sz out) (D0.sz [(D0.mk x1.Kind x2 x3 x1.Init x4 x5 x6 x7)]) (T2 (D0.len out) (D0.len [(D0.mk x1.Kind x2 x3 x1.Init x4 x5 x6 x7)]) c6) (e' rfl (T' rfl (lw' (ih1 _ _ _ _ hh) rfl rfl rfl)))
  refine ex' (t' rfl (re' ?_))
  obtain rfl:=oi' hh
  exact ⟨_,.d (.sl (D0.rows out)),[],rfl,.osl,trivial,rfl,rfl,rfl,rfl⟩
theorem W15 {l fromV to res}(hh:I8 l fromV to=some res):Zs l fromV to res:=(T13 fromV to).1 _ _ hh
def Ta (p:O0)(fromV:Str)(to:Str)(x1:List Str×Int)(i:Int):Option (O0×Int):=
 if (decide (i < ((x1.1).length:Int)))=true then
  idx x1.1 i>>=fun x4=>
  if (bif (x4 == to) then (!(fromV == to)) else false)=true then
   some ((O0.mk [] []),8)
  else
   Ta p fromV to x1 (IntKind.i64.wrap (i+1))
 else
  I8 p.Decls fromV to>>=fun x5=>
  D5 p.Body fromV to>>=fun x6=>
  some ((O0.mk x5 x6),0)
 partial_fixpoint
abbrev Vw (p:O0)(fromV:Str)(to:Str)(x1:List Str×Int)(i:Int)(res:O0×Int):Prop:=LM C 58 0 Tryz.f17 [1,1,1,1,0,1,4] [(1,.d (.str fromV)),(2,.d (.str to)),(3,.ref 0 0),(6,.ref 1 0),(8,.d (.sl (estr.rows x1.1))),(10,.d (.int .i64 i))] [.row (O0.cells p) 25,.row [.full (D0.rows []),.full (C0.rows [])] 25] (Ret [] (.tup [.agg (O0.cells res.1),.d (.int .i64 res.2)]))
theorem Y17 (p:O0)(fromV:Str)(to:Str)(x1:List Str×Int):(∀ i res,Ta p fromV to x1 i=some res→Vw p fromV to x1 i res):=by
 refine Ta.partial_correctness p fromV to x1 _ ?_
 ·intro g0 ih0 i res hh
  refine Y0.unroll (S' (p' 2 rfl (qe' rfl trivial (estr.lenA _) (e' rfl (ci' rfl hh (fun hh=>?_) (fun hh=>?_))))))
  ·obtain ⟨x4,hx4,hh⟩:=bs' hh
   refine sk' (S' (bk' (sg' 11 rfl (G' 2 rfl (AG.i hC rfl rfl (fun _=>trivial) (fun hw=>⟨S0 hx4,estr.idx hx4,rfl⟩) (G' 6 rfl (a2' rfl (pa' rfl (an' (n' (ci' rfl hh (fun hh=>?_) (fun hh=>?_))))))))))))
   ·cases hh
    exact p' 1 rfl (K0.s hC rfl (e' rfl (re' (rt' rfl rfl rfl))))
   exact sk' (T' rfl (lw' (ih0 _ _ hh) rfl rfl rfl))
  obtain ⟨x5,hx5,hh⟩:=bs' hh
  obtain ⟨x6,hx6,hh⟩:=bs' hh
  cases hh
  exact ex' (S' (AEx.draw hC 11 rfl rfl rfl (O' 4 rfl (Qc' (W15 hx5) rfl rfl (O' 4 rfl (Qc' (Yr hx6) rfl rfl (E' rfl (K0.s hC rfl (e' rfl (re' (rt' rfl rfl rfl)))))))))))
theorem K19 {p fromV to x1 i res}(hh:Ta p fromV to x1 i=some res):Vw p fromV to x1 i res:=(Y17 p fromV to x1) _ _ hh
def Io (p:O0)(fromV:Str)(to:Str):Option (O0×Int):=
 Zp p>>=fun x1=>
 if (x1.2 != 0)=true then
  some ((O0.mk [] []),x1.2)
 else
  T7 fromV>>=fun x2=>
  (if (!(!x2))=true then T7 to else some default)>>=fun x3=>
  if (bif (!x2) then true else (!x3))=true then
   some ((O0.mk [] []),7)
  else
   Ta p fromV to x1 0
theorem B1e {p fromV to res}(hh:Io p fromV to=some res):N0 C 17 [.agg (O0.cells p),.d (.str fromV),.d (.str to)] [] (Ret [] (.tup [.agg (O0.cells res.1),.d (.int .i64 res.2)])):=by
 unfold Io at hh
 obtain ⟨x1,hx1,hh⟩:=bs' hh
 refine N0.intro hC Tryz.func17 rfl rfl rfl (s' rfl rfl (K0.n hC rfl (K0.nf hC rfl (e' rfl (p' 1 rfl (c' (J1f hx1) rfl rfl (e' rfl (S' (t' rfl (ci' rfl hh (fun hh=>?_) (fun hh=>?_)))))))))))
 ·cases hh
  exact p' 2 rfl (K0.s hC rfl (e' rfl (re' (rt' rfl rfl rfl))))
 obtain ⟨x2,hx2,hh⟩:=bs' hh
 obtain ⟨x3,hx3,hh⟩:=bs' hh
 refine sk' (S' (sg' 8 rfl (a0' rfl (AG.c rfl rfl (fun _=>trivial) (fun _=>Qd hx2) (G' 3 rfl (AG.c rfl rfl (fun hg=>⟨hg,trivial⟩) (fun hw=>Qd (L1 hw hx3)) (a1' rfl (po' rfl (an' (n' (ci' rfl hh (fun hh=>?_) (fun hh=>?_))))))))))))
 ·cases hh
  exact p' 1 rfl (K0.s hC rfl (e' rfl (re' (rt' rfl rfl rfl))))
 exact sk' (S' (t' rfl (bk' (fw' (K19 hh) rfl rfl rfl))))
mutual
def N7 (a:List C0)(b:List C0):Option Bool:=
 if (((a).length:Int) != ((b).length:Int))=true then
  some false
 else
  Eb a b 0
 partial_fixpoint
def Eb (a:List C0)(b:List C0)(i:Int):Option Bool:=
 if (decide (i < ((a).length:Int)))=true then
  idx a i>>=fun x1=>
  idx b i>>=fun x2=>
  if (bif (bif (bif (bif (bif (bif (x1.Verb != x2.Verb) then true else (!(x1.Name == x2.Name))) then true else (x1.NV != x2.NV)) then true else (x1.Low != x2.Low)) then true else (x1.High != x2.High)) then true else (((x1.Args).length:Int) != ((x2.Args).length:Int))) then true else (((x1.Numbers).length:Int) != ((x2.Numbers).length:Int)))=true then
   some false
  else
   Fb a b x1 x2 i 0
 else
  some true
 partial_fixpoint
def Fb (a:List C0)(b:List C0)(x1:C0)(x2:C0)(i1:Int)(k:Int):Option Bool:=
 if (decide (k < ((x1.Args).length:Int)))=true then
  idx x1.Args k>>=fun x3=>
  idx x2.Args k>>=fun x4=>
  W4 x3 x4>>=fun x5=>
  if (!x5)=true then
   some false
  else
   Fb a b x1 x2 i1 (IntKind.i64.wrap (k+1))
 else
  L8 a b x1 x2 i1 0
 partial_fixpoint
def L8 (a:List C0)(b:List C0)(x1:C0)(x2:C0)(i2:Int)(k1:Int):Option Bool:=
 if (decide (k1 < ((x1.Numbers).length:Int)))=true then
  idx x1.Numbers k1>>=fun x6=>
  idx x2.Numbers k1>>=fun x7=>
  if (x6 != x7)=true then
   some false
  else
   L8 a b x1 x2 i2 (IntKind.i64.wrap (k1+1))
 else
  W4 x1.Place x2.Place>>=fun x8=>
  (if (!(!x8))=true then W4 x1.Value x2.Value else some default)>>=fun x9=>
  (if (!(bif (!x8) then true else (!x9)))=true then N7 x1.Then x2.Then else some default)>>=fun x10=>
  (if (!(bif (bif (!x8) then true else (!x9)) then true else (!x10)))=true then N7 x1.Else x2.Else else some default)>>=fun x11=>
  if (bif (bif (bif (!x8) then true else (!x9)) then true else (!x10)) then true else (!x11))=true then
   some false
  else
   Eb a b (IntKind.i64.wrap (i2+1))
 partial_fixpoint
end
abbrev Gv (a:List C0)(b:List C0)(res:Bool):Prop:=N0 C 59 [.d (.sl (C0.rows a)),.d (.sl (C0.rows b))] [] (Ret [] (.d (.bool res)))
abbrev U13 (a:List C0)(b:List C0)(i:Int)(res:Bool):Prop:=LM C 147 0 Tryz.f59 [1,1,0,1,4] [(0,.d (.sl (C0.rows a))),(1,.d (.sl (C0.rows b))),(5,.d (.int .i64 i))] [] (Ret [] (.d (.bool res)))
abbrev V13 (a:List C0)(b:List C0)(x1:C0)(x2:C0)(i1:Int)(k:Int)(res:Bool):Prop:=LM C 147 0 Tryz.f59 [1,1,0,1,4,5,1,0,4,1,1,1,0,1,4] [(0,.d (.sl (C0.rows a))),(1,.d (.sl (C0.rows b))),(5,.d (.int .i64 i1)),(6,.ref 0 0),(7,.ref 1 0),(8,.d (.int .i64 k))] [.row (C0.cells x1) 79,.row (C0.cells x2) 79] (Ret [] (.d (.bool res)))
abbrev W13 (a:List C0)(b:List C0)(x1:C0)(x2:C0)(i2:Int)(k1:Int)(res:Bool):Prop:=LM C 147 0 Tryz.f59 [1,1,0,1,4,5,1,0,4,1,1,1,1,0,1,4] [(0,.d (.sl (C0.rows a))),(1,.d (.sl (C0.rows b))),(5,.d (.int .i64 i2)),(6,.ref 0 0),(7,.ref 1 0),(9,.d (.int .i64 k1))] [.row (C0.cells x1) 79,.row (C0.cells x2) 79] (Ret [] (.d (.bool res)))
theorem X15:(∀ a b res,N7 a b=some res→Gv a b res)∧(∀ a b i res,Eb a b i=some res→U13 a b i res)∧(∀ a b x1 x2 i1 k res,Fb a b x1 x2 i1 k=some res→V13 a b x1 x2 i1 k res)∧(∀ a b x1 x2 i2 k1 res,L8 a b x1 x2 i2 k1=some res→W13 a b x1 x2 i2 k1 res):=by
 refine N7.mutual_partial_correctness _ _ _ _ ?_ ?_ ?_ ?_
 ·intro g1 ih1 a b res hh
  refine N0.intro hC Tryz.func59 rfl rfl rfl (t' rfl (S' (p' 1 rfl (qe' rfl trivial (C0.lenA _) (q' rfl (qe' rfl trivial (C0.lenA _) (e' rfl (ci' rfl hh (fun hh=>?_) (fun hh=>?_)))))))))
  ·cases hh
   exact t' rfl (re' (rt' rfl rfl rfl))
  exact sk' (S' (t' rfl (bk' (fw' (ih1 _ _ _ _ hh) rfl rfl rfl))))
 ·intro g2 ih2 a b i res hh
  refine Y0.unroll (S' (p' 2 rfl (qe' rfl trivial (C0.lenA _) (e' rfl (ci' rfl hh (fun hh=>?_) (fun hh=>?_))))))
  ·obtain ⟨x1,hx1,hh⟩:=bs' hh
   obtain ⟨x2,hx2,hh⟩:=bs' hh
   refine sk' (S' (bk' (p' 2 rfl (i' rfl (S0 hx1) (C0.idx hx1) rfl (q' rfl (K0.nf hC rfl (K0.s hC rfl (n' (p' 2 rfl (i' rfl (S0 hx2) (C0.idx hx2) rfl (q' rfl (K0.nf hC rfl (K0.s hC rfl ?_)))))))))))))
   refine n' (S' (sg' 51 rfl (G' 7 rfl (a1' rfl (a0' rfl (a1' rfl (a2' rfl (po' rfl (G' 2 rfl (a1' rfl (a0' rfl (a1' rfl (a2' rfl ?_)))))))))))))
   refine po' rfl (G' 2 rfl (a1' rfl (a0' rfl (a1' rfl (a2' rfl (po' rfl (G' 2 rfl (a1' rfl (a0' rfl (a1' rfl (a2' rfl (po' rfl (G' 2 rfl ?_)))))))))))))
   refine a1' rfl (AG.qe hC rfl (fun hg=>⟨⟨hg,trivial⟩,trivial⟩) (A0.lenA _) (a0' rfl (a1' rfl (AG.qe hC rfl (fun hg=>⟨⟨hg,trivial⟩,trivial⟩) (A0.lenA _) (a2' rfl (po' rfl (G' 2 rfl (a1' rfl (AG.qe hC rfl (fun hg=>⟨⟨hg,trivial⟩,trivial⟩) (ei64.lenA _) (a0' rfl (a1' rfl (AG.qe hC rfl (fun hg=>⟨⟨hg,trivial⟩,trivial⟩) (ei64.lenA _) (a2' rfl ?_)))))))))))))
   refine po' rfl (an' (n' (ci' rfl hh (fun hh=>?_) (fun hh=>?_))))
   ·cases hh
    exact t' rfl (re' (rt' rfl rfl rfl))
   exact sk' (S' (t' rfl (bk' (fw' (ih2 _ _ _ _ _ _ _ hh) rfl rfl rfl))))
  cases hh
  exact ex' (t' rfl (re' (rt' rfl rfl rfl)))
 ·intro g2 g3 ih2 ih3 a b x1 x2 i1 k res hh
  refine Y0.unroll (S' (p' 3 rfl (qe' rfl trivial (A0.lenA _) (e' rfl (ci' rfl hh (fun hh=>?_) (fun hh=>?_))))))
  ·obtain ⟨x3,hx3,hh⟩:=bs' hh
   obtain ⟨x4,hx4,hh⟩:=bs' hh
   obtain ⟨x5,hx5,hh⟩:=bs' hh
   refine sk' (S' (bk' (S' (AEx.draw hC 12 rfl rfl rfl (O' 3 rfl (AQ.i hC rfl (S0 hx3) (A0.idx hx3) rfl (O' 4 rfl (AQ.i hC rfl (S0 hx4) (A0.idx hx4) rfl (Q' rfl (Qc' (Hh hx5) rfl rfl (E' rfl (n' (ci' rfl hh (fun hh=>?_) (fun hh=>?_))))))))))))))
   ·cases hh
    exact t' rfl (re' (rt' rfl rfl rfl))
   exact sk' (T' rfl (lw' (ih2 _ _ _ _ _ _ _ hh) rfl rfl rfl))
  exact ex' (S' (t' rfl (bk' (fw' (ih3 _ _ _ _ _ _ _ hh) rfl rfl rfl))))
 ·intro g0 g1 g3 ih0 ih1 ih3 a b x1 x2 i2 k1 res hh
  refine Y0.unroll (S' (p' 3 rfl (qe' rfl trivial (ei64.lenA _) (e' rfl (ci' rfl hh (fun hh=>?_) (fun hh=>?_))))))
  ·obtain ⟨x6,hx6,hh⟩:=bs' hh
   obtain ⟨x7,hx7,hh⟩:=bs' hh
   refine sk' (S' (bk' (S' (AEx.draw hC 11 rfl rfl rfl (O' 3 rfl (AQ.i hC rfl (S0 hx6) (ei64.idx hx6) rfl (O' 4 rfl (AQ.i hC rfl (S0 hx7) (ei64.idx hx7) rfl (E' rfl (n' (ci' rfl hh (fun hh=>?_) (fun hh=>?_))))))))))))
   ·cases hh
    exact t' rfl (re' (rt' rfl rfl rfl))
   exact sk' (T' rfl (lw' (ih3 _ _ _ _ _ _ _ hh) rfl rfl rfl))
  obtain ⟨x8,hx8,hh⟩:=bs' hh
  obtain ⟨x9,hx9,hh⟩:=bs' hh
  obtain ⟨x10,hx10,hh⟩:=bs' hh
  obtain ⟨x11,hx11,hh⟩:=bs' hh
  refine ex' (sg' 30 rfl (G' 4 rfl (AG.c rfl rfl (fun _=>trivial) (fun _=>Hh hx8) (G' 3 rfl (a1' rfl (a0' rfl (a1' rfl (AG.c rfl rfl (fun hg=>⟨hg,hg,trivial⟩) (fun hw=>Hh (L1 hw hx9)) (a1' rfl (po' rfl (G' 2 rfl (a1' rfl (a0' rfl ?_)))))))))))))
  refine a1' rfl (AG.c rfl rfl (fun hg=>⟨hg,hg,trivial⟩) (fun hw=>ih0 _ _ _ (L1 hw hx10)) (a1' rfl (po' rfl (G' 2 rfl (a1' rfl (a0' rfl (a1' rfl (AG.c rfl rfl (fun hg=>⟨hg,hg,trivial⟩) (fun hw=>ih0 _ _ _ (L1 hw hx11)) (a1' rfl (po' rfl (an' (n' (ci' rfl hh (fun hh=>?_) (fun hh=>?_))))))))))))))
  ·cases hh
   exact t' rfl (re' (rt' rfl rfl rfl))
  exact sk' (T' rfl (lw' (ih1 _ _ _ _ hh) rfl rfl rfl))
theorem At {a b res}(hh:N7 a b=some res):Gv a b res:=(X15).1 _ _ _ hh
mutual
def K9 (a:List D0)(b:List D0):Option Bool:=
 if (((a).length:Int) != ((b).length:Int))=true then
  some false
 else
  Gb a b 0
 partial_fixpoint
def Gb (a:List D0)(b:List D0)(i:Int):Option Bool:=
 if (decide (i < ((a).length:Int)))=true then
  idx a i>>=fun x1=>
  idx b i>>=fun x2=>
  (if (!(bif (bif (x1.Kind != x2.Kind) then true else (!(x1.Name == x2.Name))) then true else (x1.Init != x2.Init)))=true then P8 x1.TypeV x2.TypeV else some default)>>=fun x3=>
  (if (!(bif (bif (bif (x1.Kind != x2.Kind) then true else (!(x1.Name == x2.Name))) then true else (x1.Init != x2.Init)) then true else (!x3)))=true then W4 x1.Value x2.Value else some default)>>=fun x4=>
  (if (!(bif (bif (bif (bif (x1.Kind != x2.Kind) then true else (!(x1.Name == x2.Name))) then true else (x1.Init != x2.Init)) then true else (!x3)) then true else (!x4)))=true then K9 x1.Params x2.Params else some default)>>=fun x5=>
  (if (!(bif (bif (bif (bif (bif (x1.Kind != x2.Kind) then true else (!(x1.Name == x2.Name))) then true else (x1.Init != x2.Init)) then true else (!x3)) then true else (!x4)) then true else (!x5)))=true then K9 x1.Vars x2.Vars else some default)>>=fun x6=>
  (if (!(bif (bif (bif (bif (bif (bif (x1.Kind != x2.Kind) then true else (!(x1.Name == x2.Name))) then true else (x1.Init != x2.Init)) then true else (!x3)) then true else (!x4)) then true else (!x5)) then true else (!x6)))=true then N7 x1.Body x2.Body else some default)>>=fun x7=>
  if (bif (bif (bif (bif (bif (bif (bif (x1.Kind != x2.Kind) then true else (!(x1.Name == x2.Name))) then true else (x1.Init != x2.Init)) then true else (!x3)) then true else (!x4)) then true else (!x5)) then true else (!x6)) then true else (!x7))=true then
   some false
  else
   Gb a b (IntKind.i64.wrap (i+1))
 else
  some true
 partial_fixpoint
end
abbrev Hv (a:List D0)(b:List D0)(res:Bool):Prop:=N0 C 58 [.d (.sl (D0.rows a)),.d (.sl (D0.rows b))] [] (Ret [] (.d (.bool res)))
abbrev X13 (a:List D0)(b:List D0)(i:Int)(res:Bool):Prop:=LM C 86 0 Tryz.f58 [1,1,0,1,4] [(0,.d (.sl (D0.rows a))),(1,.d (.sl (D0.rows b))),(5,.d (.int .i64 i))] [] (Ret [] (.d (.bool res)))
theorem Y15:(∀ a b res,K9 a b=some res→Hv a b res)∧(∀ a b i res,Gb a b i=some res→X13 a b i res):=by
 refine K9.mutual_partial_correctness _ _ ?_ ?_
 ·intro g1 ih1 a b res hh
  refine N0.intro hC Tryz.func58 rfl rfl rfl (t' rfl (S' (p' 1 rfl (qe' rfl trivial (D0.lenA _) (q' rfl (qe' rfl trivial (D0.lenA _) (e' rfl (ci' rfl hh (fun hh=>?_) (fun hh=>?_)))))))))
  ·cases hh
   exact t' rfl (re' (rt' rfl rfl rfl))
  exact sk' (S' (t' rfl (bk' (fw' (ih1 _ _ _ _ hh) rfl rfl rfl))))
 ·intro g0 g1 ih0 ih1 a b i res hh
  refine Y0.unroll (S' (p' 2 rfl (qe' rfl trivial (D0.lenA _) (e' rfl (ci' rfl hh (fun hh=>?_) (fun hh=>?_))))))
  ·obtain ⟨x1,hx1,hh⟩:=bs' hh
   obtain ⟨x2,hx2,hh⟩:=bs' hh
   obtain ⟨x3,hx3,hh⟩:=bs' hh
   obtain ⟨x4,hx4,hh⟩:=bs' hh
   obtain ⟨x5,hx5,hh⟩:=bs' hh
   obtain ⟨x6,hx6,hh⟩:=bs' hh
   obtain ⟨x7,hx7,hh⟩:=bs' hh
   refine sk' (S' (bk' (p' 2 rfl (i' rfl (S0 hx1) (D0.idx hx1) rfl (q' rfl (K0.nf hC rfl (K0.s hC rfl (n' (p' 2 rfl (i' rfl (S0 hx2) (D0.idx hx2) rfl (q' rfl (K0.nf hC rfl (K0.s hC rfl ?_)))))))))))))
   refine n' (sg' 59 rfl (G' 7 rfl (a1' rfl (a0' rfl (a1' rfl (a2' rfl (po' rfl (G' 2 rfl (a1' rfl (a0' rfl (a1' rfl (a2' rfl (po' rfl ?_)))))))))))))
   refine G' 2 rfl (a1' rfl (a0' rfl (a1' rfl (AG.c rfl rfl (fun hg=>⟨hg,hg,trivial⟩) (fun hw=>Uu (L1 hw hx3)) (a1' rfl (po' rfl (G' 2 rfl (a1' rfl (a0' rfl (a1' rfl (AG.c rfl rfl (fun hg=>⟨hg,hg,trivial⟩) (fun hw=>Hh (L1 hw hx4)) (a1' rfl (po' rfl ?_)))))))))))))
   refine G' 2 rfl (a1' rfl (a0' rfl (a1' rfl (AG.c rfl rfl (fun hg=>⟨hg,hg,trivial⟩) (fun hw=>ih0 _ _ _ (L1 hw hx5)) (a1' rfl (po' rfl (G' 2 rfl (a1' rfl (a0' rfl (a1' rfl (AG.c rfl rfl (fun hg=>⟨hg,hg,trivial⟩) (fun hw=>ih0 _ _ _ (L1 hw hx6)) (a1' rfl (po' rfl ?_)))))))))))))
   refine G' 2 rfl (a1' rfl (a0' rfl (a1' rfl (AG.c rfl rfl (fun hg=>⟨hg,hg,trivial⟩) (fun hw=>At (L1 hw hx7)) (a1' rfl (po' rfl (an' (n' (ci' rfl hh (fun hh=>?_) (fun hh=>?_))))))))))
   ·cases hh
    exact t' rfl (re' (rt' rfl rfl rfl))
   exact sk' (T' rfl (lw' (ih1 _ _ _ _ hh) rfl rfl rfl))
  cases hh
  exact ex' (t' rfl (re' (rt' rfl rfl rfl)))
theorem Z17 {a b res}(hh:K9 a b=some res):Hv a b res:=(Y15).1 _ _ _ hh
def Sg (p:O0)(q:O0):Option Bool:=
 K9 p.Decls q.Decls>>=fun x1=>
 (if x1=true then N7 p.Body q.Body else some default)>>=fun x2=>
 some (bif x1 then x2 else false)
theorem Y13 {p q res}(hh:Sg p q=some res):N0 C 18 [.agg (O0.cells p),.agg (O0.cells q)] [] (Ret [] (.d (.bool res))):=by
 unfold Sg at hh
 obtain ⟨x1,hx1,hh⟩:=bs' hh
 obtain ⟨x2,hx2,hh⟩:=bs' hh
 cases hh
 refine N0.intro hC Tryz.func18 rfl rfl rfl (s' rfl rfl (K0.n hC rfl (K0.n hC rfl (e' rfl (sg' 13 rfl (G' 4 rfl (AG.c rfl rfl (fun _=>trivial) (fun _=>Z17 hx1) (G' 2 rfl (a1' rfl (a0' rfl (a1' rfl (AG.c rfl rfl (fun hg=>⟨hg,hg,trivial⟩) (fun hw=>At (L1 hw hx2)) (pa' rfl ?_)))))))))))))
 exact a0' rfl (an' (n' (re' (rt' rfl rfl rfl))))
def Qk (p:O0)(fromV:Str)(to:Str):Option Bool:=
 Yk>>=fun x1=>
 if (!x1)=true then
  some false
 else
  Tu p 400>>=fun x2=>
  if (bif (bif (!x2) then true else (decide (((fromV).length:Int) > 40))) then true else (decide (((to).length:Int) > 40)))=true then
   some true
  else
   Ck p fromV to>>=fun x3=>
   Io p fromV to>>=fun x4=>
   (if (!(x3.2 != x4.2))=true then Sg x3.1 x4.1 else some default)>>=fun x5=>
   if (bif (x3.2 != x4.2) then true else (!x5))=true then
    some false
   else
    if (x3.2 != 0)=true then
     some true
    else
     Ck x3.1 to fromV>>=fun x6=>
     (if (x6.2 == 0)=true then Sg x6.1 p else some default)>>=fun x7=>
     some (bif (x6.2 == 0) then x7 else false)
theorem Z13 {p fromV to res}(hh:Qk p fromV to=some res):N0 C 4 [.agg (O0.cells p),.d (.str fromV),.d (.str to)] [] (Ret [] (.d (.bool res))):=by
 unfold Qk at hh
 obtain ⟨x1,hx1,hh⟩:=bs' hh
 refine N0.intro hC Tryz.func4 rfl rfl rfl (s' rfl rfl (K0.n hC rfl (e' rfl (S' (s' rfl rfl (c' (E1f hx1) rfl rfl (e' rfl (ci' rfl hh (fun hh=>?_) (fun hh=>?_)))))))))
 ·cases hh
  exact t' rfl (re' (rt' rfl rfl rfl))
 obtain ⟨x2,hx2,hh⟩:=bs' hh
 refine sk' (S' (sg' 13 rfl (a0' rfl (AG.c rfl rfl (fun _=>trivial) (fun _=>G1j hx2) (G' 3 rfl (a1' rfl (a1' rfl (po' rfl (G' 2 rfl (a1' rfl (a1' rfl (po' rfl (an' ?_)))))))))))))
 refine n' (ci' rfl hh (fun hh=>?_) (fun hh=>?_))
 ·cases hh
  exact t' rfl (re' (rt' rfl rfl rfl))
 obtain ⟨x3,hx3,hh⟩:=bs' hh
 obtain ⟨x4,hx4,hh⟩:=bs' hh
 obtain ⟨x5,hx5,hh⟩:=bs' hh
 refine sk' (p' 3 rfl (c' (Rz hx3) rfl rfl (o' 3 rfl (K0.nf hC rfl (K0.s hC rfl (e' rfl (p' 3 rfl (c' (B1e hx4) rfl rfl (o' 3 rfl (K0.nf hC rfl (K0.s hC rfl (e' rfl (S' ?_)))))))))))))
 refine sg' 9 rfl (G' 6 rfl (AG.c rfl rfl (fun hg=>⟨hg,hg,trivial⟩) (fun hw=>Y13 (L1 hw hx5)) (a1' rfl (po' rfl (an' (n' (ci' rfl hh (fun hh=>?_) (fun hh=>?_))))))))
 ·cases hh
  exact t' rfl (re' (rt' rfl rfl rfl))
 refine sk' (S' (t' rfl (ci' rfl hh (fun hh=>?_) (fun hh=>?_))))
 ·cases hh
  exact t' rfl (re' (rt' rfl rfl rfl))
 obtain ⟨x6,hx6,hh⟩:=bs' hh
 obtain ⟨x7,hx7,hh⟩:=bs' hh
 cases hh
 refine sk' (p' 3 rfl (c' (Rz hx6) rfl rfl (o' 3 rfl (K0.nf hC rfl (K0.s hC rfl (e' rfl (sg' 8 rfl (G' 5 rfl (AG.c rfl rfl (fun hg=>⟨hg,hg,trivial⟩) (fun hw=>Y13 (L1 hw hx7)) (pa' rfl (a0' rfl (an' (n' ?_)))))))))))))
 exact re' (rt' rfl rfl rfl)
end Go.Proofs.YtbmlpamppbcdeaaGreatDoor

set_option maxRecDepth 100000
set_option maxHeartbeats 4000000
set_option synthInstance.maxSize 20000
set_option linter.unusedVariables false
namespace Go.Proofs.YtbmlpamppbcdeaaGreatDoor
open Go.Am
def Bq (fu:Nat)(n:Int):Option A0:=
 some (A0.mk 0 n [] [])
theorem I1j (fu:Nat)(n:Int):Le (Bq fu n) (Xn n):=by
 unfold Bq Xn
 repeat (first | exact Le.rfl | exact R0 _ | refine Le.bind ?_ (fun _=>?_) | refine Le.ite ?_ ?_)
def Td (fu:Nat)(o:Int)(kids:List A0):Option A0:=
 some (A0.mk o 0 [] kids)
theorem F1h (fu:Nat)(o:Int)(kids:List A0):Le (Td fu o kids) (Od o kids):=by
 unfold Td Od
 repeat (first | exact Le.rfl | exact R0 _ | refine Le.bind ?_ (fun _=>?_) | refine Le.ite ?_ ?_)
def Pb (fu:Nat)(s:Str):Option A0:=
 some (A0.mk 3 0 s [])
theorem G1h (fu:Nat)(s:Str):Le (Pb fu s) (Sb s):=by
 unfold Pb Sb
 repeat (first | exact Le.rfl | exact R0 _ | refine Le.bind ?_ (fun _=>?_) | refine Le.ite ?_ ?_)
def Ud (fu:Nat)(d:Int)(syntaxReport:J0):Option J0:=
 some (J0.mk syntaxReport.nodes (max syntaxReport.depth d) syntaxReport.badForm syntaxReport.badName syntaxReport.badNumber)
theorem V1 (fu:Nat)(d:Int)(syntaxReport:J0):Le (Ud fu d syntaxReport) (R5 d syntaxReport):=by
 unfold Ud R5
 repeat (first | exact Le.rfl | exact R0 _ | refine Le.bind ?_ (fun _=>?_) | refine Le.ite ?_ ?_)
def Oi (fu:Nat)(op:Int)(v9:Bool):Option Int:=
 if v9=true then
  some 1
 else
  if (op == 5)=true then
   some 2
  else
   if (op == 23)=true then
    some 3
   else
    if (bif (decide (op≥8)) then (decide (op≤22)) else false)=true then
     some 2
    else
     some (-1)
theorem L19 (fu:Nat)(op:Int)(v9:Bool):Le (Oi fu op v9) (Ia op v9):=by
 unfold Oi Ia
 repeat (first | exact Le.rfl | exact R0 _ | refine Le.bind ?_ (fun _=>?_) | refine Le.ite ?_ ?_)
def Af (fu:Nat)(op:Int)(v4:Bool):Option Int:=
 if v4=true then
  some 0
 else
  if (op == 4)=true then
   Oi fu op (op == 4)
  else
   if (op == 6)=true then
    Oi fu op (op == 6)
   else
    Oi fu op (op == 7)
theorem M19 (fu:Nat)(op:Int)(v4:Bool):Le (Af fu op v4) (N8 op v4):=by
 unfold Af N8
 repeat (first | exact Le.rfl | exact L19 fu _ _ | exact R0 _ | refine Le.bind ?_ (fun _=>?_) | refine Le.ite ?_ ?_)
def Qt (fu:Nat)(op:Int):Option Int:=
 if (op == 0)=true then
  Af fu op (op == 0)
 else
  if (op == 1)=true then
   Af fu op (op == 1)
  else
   if (op == 2)=true then
    Af fu op (op == 2)
   else
    Af fu op (op == 3)
theorem Rk (fu:Nat)(op:Int):Le (Qt fu op) (Jj op):=by
 unfold Qt Jj
 repeat (first | exact Le.rfl | exact M19 fu _ _ | exact R0 _ | refine Le.bind ?_ (fun _=>?_) | refine Le.ite ?_ ?_)
def W0 (fu:Nat)(ok:Bool)(syntaxReport:J0):Option J0:=
 some (J0.mk syntaxReport.nodes syntaxReport.depth (bif syntaxReport.badForm then true else (!ok)) syntaxReport.badName syntaxReport.badNumber)
theorem D1 (fu:Nat)(ok:Bool)(syntaxReport:J0):Le (W0 fu ok syntaxReport) (T0 ok syntaxReport):=by
 unfold W0 T0
 repeat (first | exact Le.rfl | exact R0 _ | refine Le.bind ?_ (fun _=>?_) | refine Le.ite ?_ ?_)
def Pi:Nat→A0→Option Bool
 | 0,_=>none
 | fu+1,o0=>
  if (bif (o0.Op == 4) then true else (o0.Op == 5))=true then
   if (((o0.Kids).length:Int) == 0)=true then
    some false
   else
    idx o0.Kids 0>>=fun x1=>
    Pi fu x1
  else
   some (o0.Op == 3)
theorem A18 (fu:Nat):(∀ (o0:A0),Le (Pi fu o0) (O8 o0)):=by
 induction fu with
 | zero=>exact fun _=>Le.none
 | succ fu ih=>
  have ih0:=ih
  refine fun o0=>?_
  ·rw [Pi,O8]
   repeat (first | exact Le.rfl | exact ih0 _ | exact R0 _ | refine Le.bind ?_ (fun _=>?_) | refine Le.ite ?_ ?_)
theorem N19 (fu:Nat)(o0:A0):Le (Pi fu o0) (O8 o0):=(A18 fu) o0
def To (fu:Nat)(e:A0):Option Bool:=
 Pi fu e
theorem U6 (fu:Nat)(e:A0):Le (To fu e) (Dh e):=by
 unfold To Dh
 repeat (first | exact Le.rfl | exact N19 fu _ | exact R0 _ | refine Le.bind ?_ (fun _=>?_) | refine Le.ite ?_ ?_)
def Oq (fu:Nat)(c:Int):Option Bool:=
 some (bif (decide (c≥97)) then (decide (c≤122)) else false)
theorem Z1a (fu:Nat)(c:Int):Le (Oq fu c) (Ej c):=by
 unfold Oq Ej
 repeat (first | exact Le.rfl | exact R0 _ | refine Le.bind ?_ (fun _=>?_) | refine Le.ite ?_ ?_)
def Zr (fu:Nat)(c:Int):Option Bool:=
 some (bif (decide (c≥48)) then (decide (c≤57)) else false)
theorem D1c (fu:Nat)(c:Int):Le (Zr fu c) (Bk c):=by
 unfold Zr Bk
 repeat (first | exact Le.rfl | exact R0 _ | refine Le.bind ?_ (fun _=>?_) | refine Le.ite ?_ ?_)
def Qi:Nat→Str→Int→Option Bool
 | 0,_,_=>none
 | fu+1,s,v6=>
  if (decide (v6 < ((s).length:Int)))=true then
   idx s v6>>=fun x1=>
   Oq fu (x1.toNat:Int)>>=fun x2=>
   (if ((!x2)&&(!(v6 == 0)))=true then idx s v6 else some default)>>=fun x3=>
   (if ((!x2)&&(!(v6 == 0)))=true then Zr fu (x3.toNat:Int) else some default)>>=fun x4=>
   if (bif (!x2) then (bif (v6 == 0) then true else (!x4)) else false)=true then
    some false
   else
    Qi fu s (IntKind.i64.wrap (v6+1))
  else
   some (!(s == []))
theorem B18 (fu:Nat):(∀ (s:Str) (v6:Int),Le (Qi fu s v6) (S5 s v6)):=by
 induction fu with
 | zero=>exact fun _ _=>Le.none
 | succ fu ih=>
  have ih0:=ih
  refine fun s v6=>?_
  ·rw [Qi,S5]
   repeat (first | exact Le.rfl | exact ih0 _ _ | exact Z1a fu _ | exact D1c fu _ | exact R0 _ | refine Le.bind ?_ (fun _=>?_) | refine Le.ite ?_ ?_)
theorem O19 (fu:Nat)(s:Str)(v6:Int):Le (Qi fu s v6) (S5 s v6):=(B18 fu) s v6
def Rt (fu:Nat)(s:Str):Option Bool:=
 Qi fu s 0
theorem C1e (fu:Nat)(s:Str):Le (Rt fu s) (Tl s):=by
 unfold Rt Tl
 repeat (first | exact Le.rfl | exact O19 fu _ _ | exact R0 _ | refine Le.bind ?_ (fun _=>?_) | refine Le.ite ?_ ?_)
def Pq (fu:Nat)(J5:Str):Option Bool:=
 (if (!(J5 == []))=true then Sm J5 [32] else some default)>>=fun x1=>
 if (!(bif (!(J5 == [])) then (!x1) else false)||(decide (1+J5.length≤maxLen)))=true then
  if (!(bif (!(J5 == [])) then (!x1) else false)||(decide (([32]++J5).length+1≤maxLen)))=true then
   (if (bif (!(J5 == [])) then (!x1) else false)=true then Sm [32,116,121,112,101,32,115,101,99,114,101,116,32,112,117,98,108,105,99,32,114,97,110,100,111,109,32,118,97,114,32,104,97,116,99,104,32,102,117,110,99,32,114,101,116,117,114,110,32,98,101,103,105,110,32,101,110,100,32,98,111,111,108,32,105,110,116,32,97,114,114,97,121,32,111,102,32,114,101,99,111,114,100,32,116,114,117,101,32,102,97,108,115,101,32,99,97,108,108,32,114,101,108,101,97,115,101,32,111,117,116,112,117,116,32,119,97,105,116,32,105,102,32,101,108,115,101,32,119,104,105,108,101,32,108,105,109,105,116,32,102,111,114,32,116,111,32,115,101,116,116,108,101,32,109,105,110,32,109,97,120,32] (([32]++J5)++[32]) else some default)>>=fun x2=>
   some (bif (bif (!(J5 == [])) then (!x1) else false) then x2 else false)
  else none
 else none
theorem A1b (fu:Nat)(J5:Str):Le (Pq fu J5) (Fg J5):=by
 unfold Pq Fg
 repeat (first | exact Le.rfl | exact R0 _ | refine Le.bind ?_ (fun _=>?_) | refine Le.ite ?_ ?_)
def Tt (fu:Nat)(s:Str):Option Bool:=
 (if (decide (((s).length:Int)≤12))=true then Rt fu s else some default)>>=fun x1=>
 (if (bif (decide (((s).length:Int)≤12)) then x1 else false)=true then Pq fu s else some default)>>=fun x2=>
 some (bif (bif (decide (((s).length:Int)≤12)) then x1 else false) then (!x2) else false)
theorem D1e (fu:Nat)(s:Str):Le (Tt fu s) (Ul s):=by
 unfold Tt Ul
 repeat (first | exact Le.rfl | exact C1e fu _ | exact A1b fu _ | exact R0 _ | refine Le.bind ?_ (fun _=>?_) | refine Le.ite ?_ ?_)
def As (fu:Nat)(s:Str):Option Bool:=
 Tt fu s>>=fun x1=>
 some x1
theorem E1c (fu:Nat)(s:Str):Le (As fu s) (Q9 s):=by
 unfold As Q9
 repeat (first | exact Le.rfl | exact D1e fu _ | exact R0 _ | refine Le.bind ?_ (fun _=>?_) | refine Le.ite ?_ ?_)
def P7 (fu:Nat)(s:Str)(syntaxReport:J0):Option J0:=
 (if (!syntaxReport.badName)=true then As fu s else some default)>>=fun x1=>
 some (J0.mk syntaxReport.nodes syntaxReport.depth syntaxReport.badForm (bif syntaxReport.badName then true else (!x1)) syntaxReport.badNumber)
theorem G1 (fu:Nat)(s:Str)(syntaxReport:J0):Le (P7 fu s syntaxReport) (E3 s syntaxReport):=by
 unfold P7 E3
 repeat (first | exact Le.rfl | exact E1c fu _ | exact R0 _ | refine Le.bind ?_ (fun _=>?_) | refine Le.ite ?_ ?_)
def M3 (fu:Nat)(n:Int)(low:Int)(high:Int):Option Bool:=
 some (bif (decide (n≥low)) then (decide (n≤high)) else false)
theorem A2 (fu:Nat)(n:Int)(low:Int)(high:Int):Le (M3 fu n low high) (Y2 n low high):=by
 unfold M3 Y2
 repeat (first | exact Le.rfl | exact R0 _ | refine Le.bind ?_ (fun _=>?_) | refine Le.ite ?_ ?_)
def I2 (fu:Nat)(ok:Bool)(syntaxReport:J0):Option J0:=
 some (J0.mk syntaxReport.nodes syntaxReport.depth syntaxReport.badForm syntaxReport.badName (bif syntaxReport.badNumber then true else (!ok)))
theorem J1 (fu:Nat)(ok:Bool)(syntaxReport:J0):Le (I2 fu ok syntaxReport) (U1 ok syntaxReport):=by
 unfold I2 U1
 repeat (first | exact Le.rfl | exact R0 _ | refine Le.bind ?_ (fun _=>?_) | refine Le.ite ?_ ?_)
mutual
def Q7:Nat→A0→Int→J0→Option J0
 | 0,_,_,_=>none
 | fu+1,e,depth,syntaxReport=>
  Ud fu depth (J0.mk (IntKind.i64.wrap (syntaxReport.nodes+1)) syntaxReport.depth syntaxReport.badForm syntaxReport.badName syntaxReport.badNumber)>>=fun x1=>
  Qt fu e.Op>>=fun x2=>
  W0 fu (x2 == ((e.Kids).length:Int)) x1>>=fun x3=>
  W0 fu (bif (e.NV == 0) then true else (e.Op == 0)) x3>>=fun x4=>
  W0 fu (bif (e.Name == []) then true else (bif (e.Op == 3) then true else (e.Op == 4))) x4>>=fun x5=>
  if (bif (e.Op == 4) then true else (e.Op == 5))=true then
   To fu e>>=fun x6=>
   W0 fu x6 x5>>=fun x7=>
   Ff fu e depth x7
  else
   Ff fu e depth x5
def Ff:Nat→A0→Int→J0→Option J0
 | 0,_,_,_=>none
 | fu+1,e,depth,o0=>
  if (bif (e.Op == 3) then true else (e.Op == 4))=true then
   P7 fu e.Name o0>>=fun x8=>
   Gf fu e depth x8
  else
   Gf fu e depth o0
def Gf:Nat→A0→Int→J0→Option J0
 | 0,_,_,_=>none
 | fu+1,e,depth,o01=>
  if (e.Op == 0)=true then
   M3 fu e.NV 0 1048576>>=fun x9=>
   I2 fu x9 o01>>=fun x10=>
   Jf fu e depth x10
  else
   Jf fu e depth o01
def Jf:Nat→A0→Int→J0→Option J0
 | 0,_,_,_=>none
 | fu+1,e,depth,o02=>
  Kf fu e depth o02 0
def Kf:Nat→A0→Int→J0→Int→Option J0
 | 0,_,_,_,_=>none
 | fu+1,e,depth,o03,v82=>
  if (decide (v82 < ((e.Kids).length:Int)))=true then
   idx e.Kids v82>>=fun x11=>
   Q7 fu x11 (IntKind.i64.wrap (depth+1)) o03>>=fun x12=>
   Kf fu e depth x12 (IntKind.i64.wrap (v82+1))
  else
   some o03
end
theorem G12 (fu:Nat):(∀ (e:A0) (depth:Int) (syntaxReport:J0),Le (Q7 fu e depth syntaxReport) (E2 e depth syntaxReport))∧(∀ (e:A0) (depth:Int) (o0:J0),Le (Ff fu e depth o0) (K6 e depth o0))∧(∀ (e:A0) (depth:Int) (o01:J0),Le (Gf fu e depth o01) (U8 e depth o01))∧(∀ (e:A0) (depth:Int) (o02:J0),Le (Jf fu e depth o02) (V8 e depth o02))∧(∀ (e:A0) (depth:Int) (o03:J0) (v82:Int),Le (Kf fu e depth o03 v82) (I3 e depth o03 v82)):=by
 induction fu with
 | zero=>exact ⟨fun _ _ _=>Le.none,fun _ _ _=>Le.none,fun _ _ _=>Le.none,fun _ _ _=>Le.none,fun _ _ _ _=>Le.none⟩
 | succ fu ih=>
  obtain ⟨ih0,ih1,ih2,ih3,ih4⟩:=ih
  refine ⟨fun e depth syntaxReport=>?_,fun e depth o0=>?_,fun e depth o01=>?_,fun e depth o02=>?_,fun e depth o03 v82=>?_⟩
  ·rw [Q7,E2]
   repeat (first | exact Le.rfl | exact ih0 _ _ _ | exact ih1 _ _ _ | exact ih2 _ _ _ | exact ih3 _ _ _ | exact ih4 _ _ _ _ | exact V1 fu _ _ | exact Rk fu _ | exact D1 fu _ _ | exact U6 fu _ | exact G1 fu _ _ | exact A2 fu _ _ _ | exact J1 fu _ _ | exact R0 _ | refine Le.bind ?_ (fun _=>?_) | refine Le.ite ?_ ?_)
  ·rw [Ff,K6]
   repeat (first | exact Le.rfl | exact ih0 _ _ _ | exact ih1 _ _ _ | exact ih2 _ _ _ | exact ih3 _ _ _ | exact ih4 _ _ _ _ | exact V1 fu _ _ | exact Rk fu _ | exact D1 fu _ _ | exact U6 fu _ | exact G1 fu _ _ | exact A2 fu _ _ _ | exact J1 fu _ _ | exact R0 _ | refine Le.bind ?_ (fun _=>?_) | refine Le.ite ?_ ?_)
  ·rw [Gf,U8]
   repeat (first | exact Le.rfl | exact ih0 _ _ _ | exact ih1 _ _ _ | exact ih2 _ _ _ | exact ih3 _ _ _ | exact ih4 _ _ _ _ | exact V1 fu _ _ | exact Rk fu _ | exact D1 fu _ _ | exact U6 fu _ | exact G1 fu _ _ | exact A2 fu _ _ _ | exact J1 fu _ _ | exact R0 _ | refine Le.bind ?_ (fun _=>?_) | refine Le.ite ?_ ?_)
  ·rw [Jf,V8]
   repeat (first | exact Le.rfl | exact ih0 _ _ _ | exact ih1 _ _ _ | exact ih2 _ _ _ | exact ih3 _ _ _ | exact ih4 _ _ _ _ | exact V1 fu _ _ | exact Rk fu _ | exact D1 fu _ _ | exact U6 fu _ | exact G1 fu _ _ | exact A2 fu _ _ _ | exact J1 fu _ _ | exact R0 _ | refine Le.bind ?_ (fun _=>?_) | refine Le.ite ?_ ?_)
  ·rw [Kf,I3]
   repeat (first | exact Le.rfl | exact ih0 _ _ _ | exact ih1 _ _ _ | exact ih2 _ _ _ | exact ih3 _ _ _ | exact ih4 _ _ _ _ | exact V1 fu _ _ | exact Rk fu _ | exact D1 fu _ _ | exact U6 fu _ | exact G1 fu _ _ | exact A2 fu _ _ _ | exact J1 fu _ _ | exact R0 _ | refine Le.bind ?_ (fun _=>?_) | refine Le.ite ?_ ?_)
theorem N6 (fu:Nat)(e:A0)(depth:Int)(syntaxReport:J0):Le (Q7 fu e depth syntaxReport) (E2 e depth syntaxReport):=(G12 fu).1 e depth syntaxReport
def Wd (fu:Nat)(syntaxReport:J0):Option Int:=
 if (bif (decide (syntaxReport.nodes > 1024)) then true else (decide (syntaxReport.depth > 12)))=true then
  some 4
 else
  if syntaxReport.badForm=true then
   some 1
  else
   if syntaxReport.badName=true then
    some 7
   else
    if syntaxReport.badNumber=true then
     some 3
    else
     some 0
theorem Gm (fu:Nat)(syntaxReport:J0):Le (Wd fu syntaxReport) (L4 syntaxReport):=by
 unfold Wd L4
 repeat (first | exact Le.rfl | exact R0 _ | refine Le.bind ?_ (fun _=>?_) | refine Le.ite ?_ ?_)
def Sk (fu:Nat)(e:A0):Option Int:=
 Q7 fu e 1 (J0.mk 0 0 false false false)>>=fun x1=>
 Wd fu x1>>=fun x2=>
 some x2
theorem Bt (fu:Nat)(e:A0):Le (Sk fu e) (Gg e):=by
 unfold Sk Gg
 repeat (first | exact Le.rfl | exact N6 fu _ _ _ | exact Gm fu _ | exact R0 _ | refine Le.bind ?_ (fun _=>?_) | refine Le.ite ?_ ?_)
def Ri (fu:Nat)(op:Int)(v20:Bool):Option Int:=
 if v20=true then
  some 5
 else
  if (op == 6)=true then
   if (op == 6)=true then
    some 6
   else
    some 7
  else
   if (op == 7)=true then
    some 6
   else
    some 7
theorem P19 (fu:Nat)(op:Int)(v20:Bool):Le (Ri fu op v20) (Pd op v20):=by
 unfold Ri Pd
 repeat (first | exact Le.rfl | exact R0 _ | refine Le.bind ?_ (fun _=>?_) | refine Le.ite ?_ ?_)
def Ll (fu:Nat)(op:Int)(v17:Bool):Option Int:=
 if v17=true then
  some 4
 else
  if (op == 10)=true then
   Ri fu op (op == 10)
  else
   if (op == 11)=true then
    Ri fu op (op == 11)
   else
    Ri fu op (op == 12)
theorem Q19 (fu:Nat)(op:Int)(v17:Bool):Le (Ll fu op v17) (Wh op v17):=by
 unfold Ll Wh
 repeat (first | exact Le.rfl | exact P19 fu _ _ | exact R0 _ | refine Le.bind ?_ (fun _=>?_) | refine Le.ite ?_ ?_)
def J8 (fu:Nat)(op:Int)(v10:Bool):Option Int:=
 if v10=true then
  some 3
 else
  if (op == 8)=true then
   Ll fu op (op == 8)
  else
   Ll fu op (op == 9)
theorem R19 (fu:Nat)(op:Int)(v10:Bool):Le (J8 fu op v10) (S6 op v10):=by
 unfold J8 S6
 repeat (first | exact Le.rfl | exact Q19 fu _ _ | exact R0 _ | refine Le.bind ?_ (fun _=>?_) | refine Le.ite ?_ ?_)
def Uo (fu:Nat)(op:Int):Option Int:=
 if (op == 23)=true then
  some 0
 else
  if (op == 20)=true then
   some 1
  else
   if (op == 19)=true then
    some 2
   else
    if (op == 13)=true then
     J8 fu op (op == 13)
    else
     if (op == 14)=true then
      J8 fu op (op == 14)
     else
      if (op == 15)=true then
       J8 fu op (op == 15)
      else
       if (op == 16)=true then
        J8 fu op (op == 16)
       else
        if (op == 17)=true then
         J8 fu op (op == 17)
        else
         J8 fu op (op == 18)
theorem V6 (fu:Nat)(op:Int):Le (Uo fu op) (Xl op):=by
 unfold Uo Xl
 repeat (first | exact Le.rfl | exact R19 fu _ _ | exact R0 _ | refine Le.bind ?_ (fun _=>?_) | refine Le.ite ?_ ?_)
mutual
def F1:Nat→A0→Str→Option Str
 | 0,_,_=>none
 | fu+1,e,b=>
  if (e.Op == 0)=true then
   Ii e.NV>>=fun x1=>
   I0 x1 b>>=fun x2=>
   some x2.2
  else
   if (e.Op == 1)=true then
    I0 [116,114,117,101] b>>=fun x3=>
    some x3.2
   else
    if (e.Op == 2)=true then
     I0 [102,97,108,115,101] b>>=fun x4=>
     some x4.2
    else
     if (e.Op == 3)=true then
      I0 e.Name b>>=fun x5=>
      some x5.2
     else
      if (e.Op == 4)=true then
       idx e.Kids 0>>=fun x6=>
       F1 fu x6 b>>=fun x14=>
       if (decide (1+e.Name.length≤maxLen))=true then
        I0 ([46]++e.Name) x14>>=fun x15=>
        some x15.2
       else none
      else
       if (e.Op == 5)=true then
        idx e.Kids 0>>=fun x7=>
        F1 fu x7 b>>=fun x16=>
        I0 [91] x16>>=fun x17=>
        idx e.Kids 1>>=fun x18=>
        F1 fu x18 x17.2>>=fun x19=>
        I0 [93] x19>>=fun x20=>
        some x20.2
       else
        if (e.Op == 6)=true then
         Xd fu e b (e.Op == 6)
        else
         Xd fu e b (e.Op == 7)
def Xd:Nat→A0→Str→Bool→Option Str
 | 0,_,_,_=>none
 | fu+1,e,b,v77=>
  if v77=true then
   if (e.Op == 7)=true then
    Yd fu e b [33]
   else
    Yd fu e b [45]
  else
   if (e.Op == 21)=true then
    Zd fu e b (e.Op == 21)
   else
    Zd fu e b (e.Op == 22)
def Yd:Nat→A0→Str→Str→Option Str
 | 0,_,_,_=>none
 | fu+1,e,b,sign=>
  I0 sign b>>=fun x8=>
  idx e.Kids 0>>=fun x9=>
  Da fu x9 6 x8.2>>=fun x21=>
  some x21
def Da:Nat→A0→Int→Str→Option Str
 | 0,_,_,_=>none
 | fu+1,e,required,b=>
  Uo fu e.Op>>=fun x1=>
  if (decide (x1≥required))=true then
   F1 fu e b>>=fun x3=>
   some x3
  else
   I0 [40] b>>=fun x2=>
   F1 fu e x2.2>>=fun x4=>
   I0 [41] x4>>=fun x5=>
   some x5.2
def Zd:Nat→A0→Str→Bool→Option Str
 | 0,_,_,_=>none
 | fu+1,e,b,v94=>
  if v94=true then
   if (e.Op == 22)=true then
    Ae fu e b [109,97,120,40]
   else
    Ae fu e b [109,105,110,40]
  else
   if (e.Op == 23)=true then
    idx e.Kids 0>>=fun x13=>
    Da fu x13 1 b>>=fun x22=>
    I0 [32,63,32] x22>>=fun x23=>
    idx e.Kids 1>>=fun x24=>
    F1 fu x24 x23.2>>=fun x25=>
    I0 [32,58,32] x25>>=fun x26=>
    idx e.Kids 2>>=fun x27=>
    F1 fu x27 x26.2>>=fun x28=>
    some x28
   else
    Xj fu e b>>=fun x29=>
    some x29
def Ae:Nat→A0→Str→Str→Option Str
 | 0,_,_,_=>none
 | fu+1,e,b,J5=>
  I0 J5 b>>=fun x10=>
  Ed fu e.Kids x10.2>>=fun x11=>
  I0 [41] x11>>=fun x12=>
  some x12.2
def Ed:Nat→(List A0)→Str→Option Str
 | 0,_,_=>none
 | fu+1,l,b=>
  L9 fu l b 0
def L9:Nat→(List A0)→Str→Int→Option Str
 | 0,_,_,_=>none
 | fu+1,l,b1,v8=>
  if (decide (v8 < ((l).length:Int)))=true then
   idx l v8>>=fun x1=>
   if (decide (v8 > 0))=true then
    I0 [44,32] b1>>=fun x3=>
    F1 fu x1 x3.2>>=fun x2=>
    L9 fu l x2 (IntKind.i64.wrap (v8+1))
   else
    F1 fu x1 b1>>=fun x2=>
    L9 fu l x2 (IntKind.i64.wrap (v8+1))
  else
   some b1
def Xj:Nat→A0→Str→Option Str
 | 0,_,_=>none
 | fu+1,e,b=>
  Uo fu e.Op>>=fun x1=>
  if (x1 == 3)=true then
   Wb fu e b x1 4
  else
   Wb fu e b x1 x1
def Wb:Nat→A0→Str→Int→Int→Option Str
 | 0,_,_,_,_=>none
 | fu+1,e,b,x1,left=>
  idx e.Kids 0>>=fun x2=>
  Da fu x2 left b>>=fun x3=>
  idx Nu (IntKind.i64.wrap (e.Op - 8))>>=fun x4=>
  if (decide (1+x4.length≤maxLen))=true then
   if (decide (([32]++x4).length+1≤maxLen))=true then
    I0 (([32]++x4)++[32]) x3>>=fun x5=>
    idx e.Kids 1>>=fun x6=>
    Da fu x6 (IntKind.i64.wrap (x1+1)) x5.2>>=fun x7=>
    some x7
   else none
  else none
end
theorem Dp (fu:Nat):(∀ (e:A0) (b:Str),Le (F1 fu e b) (C1 e b))∧(∀ (e:A0) (b:Str) (v77:Bool),Le (Xd fu e b v77) (Hb e b v77))∧(∀ (e:A0) (b:Str) (sign:Str),Le (Yd fu e b sign) (Kb e b sign))∧(∀ (e:A0) (required:Int) (b:Str),Le (Da fu e required b) (B9 e required b))∧(∀ (e:A0) (b:Str) (v94:Bool),Le (Zd fu e b v94) (Ib e b v94))∧(∀ (e:A0) (b:Str) (J5:Str),Le (Ae fu e b J5) (Jb e b J5))∧(∀ (l:List A0) (b:Str),Le (Ed fu l b) (K8 l b))∧(∀ (l:List A0) (b1:Str) (v8:Int),Le (L9 fu l b1 v8) (Y7 l b1 v8))∧(∀ (e:A0) (b:Str),Le (Xj fu e b) (Xh e b))∧(∀ (e:A0) (b:Str) (x1:Int) (left:Int),Le (Wb fu e b x1 left) (A9 e b x1 left)):=by
 induction fu with
 | zero=>exact ⟨fun _ _=>Le.none,fun _ _ _=>Le.none,fun _ _ _=>Le.none,fun _ _ _=>Le.none,fun _ _ _=>Le.none,fun _ _ _=>Le.none,fun _ _=>Le.none,fun _ _ _=>Le.none,fun _ _=>Le.none,fun _ _ _ _=>Le.none⟩
 | succ fu ih=>
  obtain ⟨ih0,ih1,ih2,ih3,ih4,ih5,ih6,ih7,ih8,ih9⟩:=ih
  refine ⟨fun e b=>?_,fun e b v77=>?_,fun e b sign=>?_,fun e required b=>?_,fun e b v94=>?_,fun e b J5=>?_,fun l b=>?_,fun l b1 v8=>?_,fun e b=>?_,fun e b x1 left=>?_⟩
  ·rw [F1,C1]
   repeat (first | exact Le.rfl | exact ih0 _ _ | exact ih1 _ _ _ | exact ih2 _ _ _ | exact ih3 _ _ _ | exact ih4 _ _ _ | exact ih5 _ _ _ | exact ih6 _ _ | exact ih7 _ _ _ | exact ih8 _ _ | exact ih9 _ _ _ _ | exact V6 fu _ | exact R0 _ | refine Le.bind ?_ (fun _=>?_) | refine Le.ite ?_ ?_)
  ·rw [Xd,Hb]
   repeat (first | exact Le.rfl | exact ih0 _ _ | exact ih1 _ _ _ | exact ih2 _ _ _ | exact ih3 _ _ _ | exact ih4 _ _ _ | exact ih5 _ _ _ | exact ih6 _ _ | exact ih7 _ _ _ | exact ih8 _ _ | exact ih9 _ _ _ _ | exact V6 fu _ | exact R0 _ | refine Le.bind ?_ (fun _=>?_) | refine Le.ite ?_ ?_)
  ·rw [Yd,Kb]
   repeat (first | exact Le.rfl | exact ih0 _ _ | exact ih1 _ _ _ | exact ih2 _ _ _ | exact ih3 _ _ _ | exact ih4 _ _ _ | exact ih5 _ _ _ | exact ih6 _ _ | exact ih7 _ _ _ | exact ih8 _ _ | exact ih9 _ _ _ _ | exact V6 fu _ | exact R0 _ | refine Le.bind ?_ (fun _=>?_) | refine Le.ite ?_ ?_)
  ·rw [Da,B9]
   repeat (first | exact Le.rfl | exact ih0 _ _ | exact ih1 _ _ _ | exact ih2 _ _ _ | exact ih3 _ _ _ | exact ih4 _ _ _ | exact ih5 _ _ _ | exact ih6 _ _ | exact ih7 _ _ _ | exact ih8 _ _ | exact ih9 _ _ _ _ | exact V6 fu _ | exact R0 _ | refine Le.bind ?_ (fun _=>?_) | refine Le.ite ?_ ?_)
  ·rw [Zd,Ib]
   repeat (first | exact Le.rfl | exact ih0 _ _ | exact ih1 _ _ _ | exact ih2 _ _ _ | exact ih3 _ _ _ | exact ih4 _ _ _ | exact ih5 _ _ _ | exact ih6 _ _ | exact ih7 _ _ _ | exact ih8 _ _ | exact ih9 _ _ _ _ | exact V6 fu _ | exact R0 _ | refine Le.bind ?_ (fun _=>?_) | refine Le.ite ?_ ?_)
  ·rw [Ae,Jb]
   repeat (first | exact Le.rfl | exact ih0 _ _ | exact ih1 _ _ _ | exact ih2 _ _ _ | exact ih3 _ _ _ | exact ih4 _ _ _ | exact ih5 _ _ _ | exact ih6 _ _ | exact ih7 _ _ _ | exact ih8 _ _ | exact ih9 _ _ _ _ | exact V6 fu _ | exact R0 _ | refine Le.bind ?_ (fun _=>?_) | refine Le.ite ?_ ?_)
  ·rw [Ed,K8]
   repeat (first | exact Le.rfl | exact ih0 _ _ | exact ih1 _ _ _ | exact ih2 _ _ _ | exact ih3 _ _ _ | exact ih4 _ _ _ | exact ih5 _ _ _ | exact ih6 _ _ | exact ih7 _ _ _ | exact ih8 _ _ | exact ih9 _ _ _ _ | exact V6 fu _ | exact R0 _ | refine Le.bind ?_ (fun _=>?_) | refine Le.ite ?_ ?_)
  ·rw [L9,Y7]
   repeat (first | exact Le.rfl | exact ih0 _ _ | exact ih1 _ _ _ | exact ih2 _ _ _ | exact ih3 _ _ _ | exact ih4 _ _ _ | exact ih5 _ _ _ | exact ih6 _ _ | exact ih7 _ _ _ | exact ih8 _ _ | exact ih9 _ _ _ _ | exact V6 fu _ | exact R0 _ | refine Le.bind ?_ (fun _=>?_) | refine Le.ite ?_ ?_)
  ·rw [Xj,Xh]
   repeat (first | exact Le.rfl | exact ih0 _ _ | exact ih1 _ _ _ | exact ih2 _ _ _ | exact ih3 _ _ _ | exact ih4 _ _ _ | exact ih5 _ _ _ | exact ih6 _ _ | exact ih7 _ _ _ | exact ih8 _ _ | exact ih9 _ _ _ _ | exact V6 fu _ | exact R0 _ | refine Le.bind ?_ (fun _=>?_) | refine Le.ite ?_ ?_)
  ·rw [Wb,A9]
   repeat (first | exact Le.rfl | exact ih0 _ _ | exact ih1 _ _ _ | exact ih2 _ _ _ | exact ih3 _ _ _ | exact ih4 _ _ _ | exact ih5 _ _ _ | exact ih6 _ _ | exact ih7 _ _ _ | exact ih8 _ _ | exact ih9 _ _ _ _ | exact V6 fu _ | exact R0 _ | refine Le.bind ?_ (fun _=>?_) | refine Le.ite ?_ ?_)
theorem H6 (fu:Nat)(e:A0)(b:Str):Le (F1 fu e b) (C1 e b):=(Dp fu).1 e b
theorem Tg (fu:Nat)(l:List A0)(b:Str):Le (Ed fu l b) (K8 l b):=(Dp fu).2.2.2.2.2.2.1 l b
def Di (fu:Nat)(b:Str):Option (Str×Int):=
 Tm b>>=fun x1=>
 if (decide (x1 > 8192))=true then
  some ([],5)
 else
  Vj b>>=fun x2=>
  some (x2,0)
theorem Cq (fu:Nat)(b:Str):Le (Di fu b) (Xa b):=by
 unfold Di Xa
 repeat (first | exact Le.rfl | exact R0 _ | refine Le.bind ?_ (fun _=>?_) | refine Le.ite ?_ ?_)
def Mh (fu:Nat)(e:A0):Option (Str×Int):=
 Sk fu e>>=fun x1=>
 if (x1 != 0)=true then
  some ([],x1)
 else
  F1 fu e []>>=fun x2=>
  Di fu x2>>=fun x3=>
  some (x3.1,x3.2)
theorem C18 (fu:Nat)(e:A0):Le (Mh fu e) (Yb e):=by
 unfold Mh Yb
 repeat (first | exact Le.rfl | exact Bt fu _ | exact H6 fu _ _ | exact Cq fu _ | exact R0 _ | refine Le.bind ?_ (fun _=>?_) | refine Le.ite ?_ ?_)
def Jp (fu:Nat)(k:Int):Option (Bool×Bool):=
 some ((bif (decide (k≥0)) then (decide (k≤6)) else false),(bif (k == 5) then true else (k == 6)))
theorem Nh (fu:Nat)(k:Int):Le (Jp fu k) (Yh k):=by
 unfold Jp Yh
 repeat (first | exact Le.rfl | exact R0 _ | refine Le.bind ?_ (fun _=>?_) | refine Le.ite ?_ ?_)
def F5:Nat→(List Str)→(List Str)→Int→Option Bool
 | 0,_,_,_=>none
 | fu+1,s1,s2,v13=>
  if (decide (v13 < ((s1).length:Int)))=true then
   idx s1 v13>>=fun x1=>
   idx s2 v13>>=fun x2=>
   if (!(x1 == x2))=true then
    some false
   else
    F5 fu s1 s2 (IntKind.i64.wrap (v13+1))
  else
   some true
theorem Dq (fu:Nat):(∀ (s1:List Str) (s2:List Str) (v13:Int),Le (F5 fu s1 s2 v13) (W1 s1 s2 v13)):=by
 induction fu with
 | zero=>exact fun _ _ _=>Le.none
 | succ fu ih=>
  have ih0:=ih
  refine fun s1 s2 v13=>?_
  ·rw [F5,W1]
   repeat (first | exact Le.rfl | exact ih0 _ _ _ | exact R0 _ | refine Le.bind ?_ (fun _=>?_) | refine Le.ite ?_ ?_)
theorem Qq (fu:Nat)(s1:List Str)(s2:List Str)(v13:Int):Le (F5 fu s1 s2 v13) (W1 s1 s2 v13):=(Dq fu) s1 s2 v13
def Kg (fu:Nat)(s1:List Str)(s2:List Str):Option Bool:=
 if (((s1).length:Int) != ((s2).length:Int))=true then
  some false
 else
  F5 fu s1 s2 0
theorem Ef (fu:Nat)(s1:List Str)(s2:List Str):Le (Kg fu s1 s2) (G4 s1 s2):=by
 unfold Kg G4
 repeat (first | exact Le.rfl | exact Qq fu _ _ _ | exact R0 _ | refine Le.bind ?_ (fun _=>?_) | refine Le.ite ?_ ?_)
mutual
def Oh:Nat→F0→F0→Option Bool
 | 0,_,_=>none
 | fu+1,a,b=>
  (if (bif (bif (bif (bif (a.Kind == b.Kind) then (a.Low == b.Low) else false) then (a.High == b.High) else false) then (a.Size == b.Size) else false) then (a.Name == b.Name) else false)=true then Kg fu a.Names b.Names else some default)>>=fun x1=>
  (if (bif (bif (bif (bif (bif (a.Kind == b.Kind) then (a.Low == b.Low) else false) then (a.High == b.High) else false) then (a.Size == b.Size) else false) then (a.Name == b.Name) else false) then x1 else false)=true then X3 fu a.Of b.Of else some default)>>=fun x2=>
  some (bif (bif (bif (bif (bif (bif (a.Kind == b.Kind) then (a.Low == b.Low) else false) then (a.High == b.High) else false) then (a.Size == b.Size) else false) then (a.Name == b.Name) else false) then x1 else false) then x2 else false)
def X3:Nat→(List F0)→(List F0)→Option Bool
 | 0,_,_=>none
 | fu+1,s1,s2=>
  if (((s1).length:Int) != ((s2).length:Int))=true then
   some false
  else
   L2 fu s1 s2 0
def L2:Nat→(List F0)→(List F0)→Int→Option Bool
 | 0,_,_,_=>none
 | fu+1,s1,s2,v17=>
  if (decide (v17 < ((s1).length:Int)))=true then
   idx s1 v17>>=fun x1=>
   idx s2 v17>>=fun x2=>
   Oh fu x1 x2>>=fun x3=>
   if (!x3)=true then
    some false
   else
    L2 fu s1 s2 (IntKind.i64.wrap (v17+1))
  else
   some true
end
theorem Z15 (fu:Nat):(∀ (a:F0) (b:F0),Le (Oh fu a b) (Y4 a b))∧(∀ (s1:List F0) (s2:List F0),Le (X3 fu s1 s2) (R1 s1 s2))∧(∀ (s1:List F0) (s2:List F0) (v17:Int),Le (L2 fu s1 s2 v17) (A1 s1 s2 v17)):=by
 induction fu with
 | zero=>exact ⟨fun _ _=>Le.none,fun _ _=>Le.none,fun _ _ _=>Le.none⟩
 | succ fu ih=>
  obtain ⟨ih0,ih1,ih2⟩:=ih
  refine ⟨fun a b=>?_,fun s1 s2=>?_,fun s1 s2 v17=>?_⟩
  ·rw [Oh,Y4]
   repeat (first | exact Le.rfl | exact ih0 _ _ | exact ih1 _ _ | exact ih2 _ _ _ | exact Ef fu _ _ | exact R0 _ | refine Le.bind ?_ (fun _=>?_) | refine Le.ite ?_ ?_)
  ·rw [X3,R1]
   repeat (first | exact Le.rfl | exact ih0 _ _ | exact ih1 _ _ | exact ih2 _ _ _ | exact Ef fu _ _ | exact R0 _ | refine Le.bind ?_ (fun _=>?_) | refine Le.ite ?_ ?_)
  ·rw [L2,A1]
   repeat (first | exact Le.rfl | exact ih0 _ _ | exact ih1 _ _ | exact ih2 _ _ _ | exact Ef fu _ _ | exact R0 _ | refine Le.bind ?_ (fun _=>?_) | refine Le.ite ?_ ?_)
theorem Zf (fu:Nat)(a:F0)(b:F0):Le (Oh fu a b) (Y4 a b):=(Z15 fu).1 a b
mutual
def Ag:Nat→F0→Int→J0→Option J0
 | 0,_,_,_=>none
 | fu+1,t,depth,syntaxReport=>
  Ud fu depth (J0.mk (IntKind.i64.wrap (syntaxReport.nodes+1)) syntaxReport.depth syntaxReport.badForm syntaxReport.badName syntaxReport.badNumber)>>=fun x1=>
  W0 fu (bif (decide (t.Kind≥0)) then (decide (t.Kind≤4)) else false) x1>>=fun x2=>
  W0 fu (bif (t.Kind == 1) then true else (bif (t.Low == 0) then (t.High == 0) else false)) x2>>=fun x3=>
  W0 fu (bif (t.Kind == 2) then true else (t.Size == 0)) x3>>=fun x4=>
  W0 fu (bif (t.Kind == 4) then true else (t.Name == [])) x4>>=fun x5=>
  W0 fu (bif (t.Kind == 3) then true else (((t.Names).length:Int) == 0)) x5>>=fun x6=>
  if (t.Kind == 2)=true then
   W0 fu (((t.Of).length:Int) == 1) x6>>=fun x7=>
   M3 fu t.Size 1 32>>=fun x8=>
   I2 fu x8 x7>>=fun x9=>
   Qb fu t depth x9
  else
   if (t.Kind == 3)=true then
    W0 fu (bif (decide (((t.Of).length:Int)≥1)) then (((t.Of).length:Int) == ((t.Names).length:Int)) else false) x6>>=fun x14=>
    I2 fu (decide (((t.Of).length:Int)≤32)) x14>>=fun x15=>
    Qb fu t depth x15
   else
    W0 fu (((t.Of).length:Int) == 0) x6>>=fun x16=>
    Qb fu t depth x16
def Qb:Nat→F0→Int→J0→Option J0
 | 0,_,_,_=>none
 | fu+1,t,depth,o0=>
  if (t.Kind == 1)=true then
   M3 fu t.Low (-1048576) 1048576>>=fun x10=>
   (if x10=true then M3 fu t.High t.Low 1048576 else some default)>>=fun x11=>
   I2 fu (bif x10 then x11 else false) o0>>=fun x12=>
   Ug fu t depth x12
  else
   Ug fu t depth o0
def Ug:Nat→F0→Int→J0→Option J0
 | 0,_,_,_=>none
 | fu+1,t,depth,o01=>
  if (t.Kind == 4)=true then
   P7 fu t.Name o01>>=fun x13=>
   Wg fu t depth x13
  else
   Wg fu t depth o01
def Wg:Nat→F0→Int→J0→Option J0
 | 0,_,_,_=>none
 | fu+1,t,depth,o02=>
  Xg fu t depth o02 0
def Xg:Nat→F0→Int→J0→Int→Option J0
 | 0,_,_,_,_=>none
 | fu+1,t,depth,o03,v147=>
  if (decide (v147 < ((t.Names).length:Int)))=true then
   idx t.Names v147>>=fun x17=>
   P7 fu x17 o03>>=fun x18=>
   Xg fu t depth x18 (IntKind.i64.wrap (v147+1))
  else
   Yg fu t depth o03 0
def Yg:Nat→F0→Int→J0→Int→Option J0
 | 0,_,_,_,_=>none
 | fu+1,t,depth,o04,v158=>
  if (decide (v158 < ((t.Of).length:Int)))=true then
   idx t.Of v158>>=fun x19=>
   Ag fu x19 (IntKind.i64.wrap (depth+1)) o04>>=fun x20=>
   Yg fu t depth x20 (IntKind.i64.wrap (v158+1))
  else
   some o04
end
theorem A14 (fu:Nat):(∀ (t:F0) (depth:Int) (syntaxReport:J0),Le (Ag fu t depth syntaxReport) (O3 t depth syntaxReport))∧(∀ (t:F0) (depth:Int) (o0:J0),Le (Qb fu t depth o0) (T5 t depth o0))∧(∀ (t:F0) (depth:Int) (o01:J0),Le (Ug fu t depth o01) (U5 t depth o01))∧(∀ (t:F0) (depth:Int) (o02:J0),Le (Wg fu t depth o02) (I7 t depth o02))∧(∀ (t:F0) (depth:Int) (o03:J0) (v147:Int),Le (Xg fu t depth o03 v147) (Q3 t depth o03 v147))∧(∀ (t:F0) (depth:Int) (o04:J0) (v158:Int),Le (Yg fu t depth o04 v158) (J4 t depth o04 v158)):=by
 induction fu with
 | zero=>exact ⟨fun _ _ _=>Le.none,fun _ _ _=>Le.none,fun _ _ _=>Le.none,fun _ _ _=>Le.none,fun _ _ _ _=>Le.none,fun _ _ _ _=>Le.none⟩
 | succ fu ih=>
  obtain ⟨ih0,ih1,ih2,ih3,ih4,ih5⟩:=ih
  refine ⟨fun t depth syntaxReport=>?_,fun t depth o0=>?_,fun t depth o01=>?_,fun t depth o02=>?_,fun t depth o03 v147=>?_,fun t depth o04 v158=>?_⟩
  ·rw [Ag,O3]
   repeat (first | exact Le.rfl | exact ih0 _ _ _ | exact ih1 _ _ _ | exact ih2 _ _ _ | exact ih3 _ _ _ | exact ih4 _ _ _ _ | exact ih5 _ _ _ _ | exact V1 fu _ _ | exact D1 fu _ _ | exact A2 fu _ _ _ | exact J1 fu _ _ | exact G1 fu _ _ | exact R0 _ | refine Le.bind ?_ (fun _=>?_) | refine Le.ite ?_ ?_)
  ·rw [Qb,T5]
   repeat (first | exact Le.rfl | exact ih0 _ _ _ | exact ih1 _ _ _ | exact ih2 _ _ _ | exact ih3 _ _ _ | exact ih4 _ _ _ _ | exact ih5 _ _ _ _ | exact V1 fu _ _ | exact D1 fu _ _ | exact A2 fu _ _ _ | exact J1 fu _ _ | exact G1 fu _ _ | exact R0 _ | refine Le.bind ?_ (fun _=>?_) | refine Le.ite ?_ ?_)
  ·rw [Ug,U5]
   repeat (first | exact Le.rfl | exact ih0 _ _ _ | exact ih1 _ _ _ | exact ih2 _ _ _ | exact ih3 _ _ _ | exact ih4 _ _ _ _ | exact ih5 _ _ _ _ | exact V1 fu _ _ | exact D1 fu _ _ | exact A2 fu _ _ _ | exact J1 fu _ _ | exact G1 fu _ _ | exact R0 _ | refine Le.bind ?_ (fun _=>?_) | refine Le.ite ?_ ?_)
  ·rw [Wg,I7]
   repeat (first | exact Le.rfl | exact ih0 _ _ _ | exact ih1 _ _ _ | exact ih2 _ _ _ | exact ih3 _ _ _ | exact ih4 _ _ _ _ | exact ih5 _ _ _ _ | exact V1 fu _ _ | exact D1 fu _ _ | exact A2 fu _ _ _ | exact J1 fu _ _ | exact G1 fu _ _ | exact R0 _ | refine Le.bind ?_ (fun _=>?_) | refine Le.ite ?_ ?_)
  ·rw [Xg,Q3]
   repeat (first | exact Le.rfl | exact ih0 _ _ _ | exact ih1 _ _ _ | exact ih2 _ _ _ | exact ih3 _ _ _ | exact ih4 _ _ _ _ | exact ih5 _ _ _ _ | exact V1 fu _ _ | exact D1 fu _ _ | exact A2 fu _ _ _ | exact J1 fu _ _ | exact G1 fu _ _ | exact R0 _ | refine Le.bind ?_ (fun _=>?_) | refine Le.ite ?_ ?_)
  ·rw [Yg,J4]
   repeat (first | exact Le.rfl | exact ih0 _ _ _ | exact ih1 _ _ _ | exact ih2 _ _ _ | exact ih3 _ _ _ | exact ih4 _ _ _ _ | exact ih5 _ _ _ _ | exact V1 fu _ _ | exact D1 fu _ _ | exact A2 fu _ _ _ | exact J1 fu _ _ | exact G1 fu _ _ | exact R0 _ | refine Le.bind ?_ (fun _=>?_) | refine Le.ite ?_ ?_)
theorem Ce (fu:Nat)(t:F0)(depth:Int)(syntaxReport:J0):Le (Ag fu t depth syntaxReport) (O3 t depth syntaxReport):=(A14 fu).1 t depth syntaxReport
mutual
def Ph:Nat→A0→A0→Option Bool
 | 0,_,_=>none
 | fu+1,a,b=>
  (if (bif (bif (a.Op == b.Op) then (a.NV == b.NV) else false) then (a.Name == b.Name) else false)=true then Y3 fu a.Kids b.Kids else some default)>>=fun x1=>
  some (bif (bif (bif (a.Op == b.Op) then (a.NV == b.NV) else false) then (a.Name == b.Name) else false) then x1 else false)
def Y3:Nat→(List A0)→(List A0)→Option Bool
 | 0,_,_=>none
 | fu+1,s1,s2=>
  if (((s1).length:Int) != ((s2).length:Int))=true then
   some false
  else
   N2 fu s1 s2 0
def N2:Nat→(List A0)→(List A0)→Int→Option Bool
 | 0,_,_,_=>none
 | fu+1,s1,s2,v17=>
  if (decide (v17 < ((s1).length:Int)))=true then
   idx s1 v17>>=fun x1=>
   idx s2 v17>>=fun x2=>
   Ph fu x1 x2>>=fun x3=>
   if (!x3)=true then
    some false
   else
    N2 fu s1 s2 (IntKind.i64.wrap (v17+1))
  else
   some true
end
theorem A16 (fu:Nat):(∀ (a:A0) (b:A0),Le (Ph fu a b) (H4 a b))∧(∀ (s1:List A0) (s2:List A0),Le (Y3 fu s1 s2) (T1 s1 s2))∧(∀ (s1:List A0) (s2:List A0) (v17:Int),Le (N2 fu s1 s2 v17) (B1 s1 s2 v17)):=by
 induction fu with
 | zero=>exact ⟨fun _ _=>Le.none,fun _ _=>Le.none,fun _ _ _=>Le.none⟩
 | succ fu ih=>
  obtain ⟨ih0,ih1,ih2⟩:=ih
  refine ⟨fun a b=>?_,fun s1 s2=>?_,fun s1 s2 v17=>?_⟩
  ·rw [Ph,H4]
   repeat (first | exact Le.rfl | exact ih0 _ _ | exact ih1 _ _ | exact ih2 _ _ _ | exact R0 _ | refine Le.bind ?_ (fun _=>?_) | refine Le.ite ?_ ?_)
  ·rw [Y3,T1]
   repeat (first | exact Le.rfl | exact ih0 _ _ | exact ih1 _ _ | exact ih2 _ _ _ | exact R0 _ | refine Le.bind ?_ (fun _=>?_) | refine Le.ite ?_ ?_)
  ·rw [N2,B1]
   repeat (first | exact Le.rfl | exact ih0 _ _ | exact ih1 _ _ | exact ih2 _ _ _ | exact R0 _ | refine Le.bind ?_ (fun _=>?_) | refine Le.ite ?_ ?_)
theorem D18 (fu:Nat)(a:A0)(b:A0):Le (Ph fu a b) (H4 a b):=(A16 fu).1 a b
def M9 (fu:Nat)(e:A0)(used:Bool)(syntaxReport:J0):Option J0:=
 (if (!used)=true then Ph fu e (A0.mk 0 0 [] []) else some default)>>=fun x1=>
 if (bif (!used) then x1 else false)=true then
  some syntaxReport
 else
  W0 fu used syntaxReport>>=fun x2=>
  Q7 fu e 1 x2>>=fun x3=>
  some x3
theorem P2 (fu:Nat)(e:A0)(used:Bool)(syntaxReport:J0):Le (M9 fu e used syntaxReport) (Q2 e used syntaxReport):=by
 unfold M9 Q2
 repeat (first | exact Le.rfl | exact D18 fu _ _ | exact D1 fu _ _ | exact N6 fu _ _ _ | exact R0 _ | refine Le.bind ?_ (fun _=>?_) | refine Le.ite ?_ ?_)
def Jo (fu:Nat)(v:Int):Option (I1×Bool):=
 if (v == 0)=true then
  some ((I1.mk true true false false false false false false false),true)
 else
  if (v == 1)=true then
   some ((I1.mk true false true true false false false false false),true)
  else
   if (v == 2)=true then
    some ((I1.mk true false true false false false false false false),true)
   else
    if (v == 3)=true then
     some ((I1.mk false true false false false false false false false),true)
    else
     if (v == 4)=true then
      some ((I1.mk false false false false true false false false false),true)
     else
      if (v == 5)=true then
       some ((I1.mk false true false false false false false true true),true)
      else
       if (v == 6)=true then
        some ((I1.mk false true false false true false false true false),true)
       else
        if (v == 7)=true then
         some ((I1.mk false false true false false true false true false),true)
        else
         if (v == 8)=true then
          some ((I1.mk false false false false false false true false false),true)
         else
          some ((I1.mk false false false false false false false false false),false)
theorem Cg (fu:Nat)(v:Int):Le (Jo fu v) (J7 v):=by
 unfold Jo J7
 repeat (first | exact Le.rfl | exact R0 _ | refine Le.bind ?_ (fun _=>?_) | refine Le.ite ?_ ?_)
def U7:Nat→C0→J0→Int→Int→Option J0
 | 0,_,_,_,_=>none
 | fu+1,s,o0,last,v58=>
  if (decide (v58 < ((s.Numbers).length:Int)))=true then
   idx s.Numbers v58>>=fun x10=>
   M3 fu x10 0 1048576>>=fun x11=>
   I2 fu (bif x11 then (decide (x10 > last)) else false) o0>>=fun x12=>
   U7 fu s x12 x10 (IntKind.i64.wrap (v58+1))
  else
   some o0
theorem Ut (fu:Nat):(∀ (s:C0) (o0:J0) (last:Int) (v58:Int),Le (U7 fu s o0 last v58) (F2 s o0 last v58)):=by
 induction fu with
 | zero=>exact fun _ _ _ _=>Le.none
 | succ fu ih=>
  have ih0:=ih
  refine fun s o0 last v58=>?_
  ·rw [U7,F2]
   repeat (first | exact Le.rfl | exact ih0 _ _ _ _ | exact A2 fu _ _ _ | exact J1 fu _ _ | exact R0 _ | refine Le.bind ?_ (fun _=>?_) | refine Le.ite ?_ ?_)
theorem Iv (fu:Nat)(s:C0)(o0:J0)(last:Int)(v58:Int):Le (U7 fu s o0 last v58) (F2 s o0 last v58):=(Ut fu) s o0 last v58
def Yj (fu:Nat)(s:C0)(syntaxReport:J0):Option J0:=
 if (s.Verb == 4)=true then
  M3 fu s.NV 0 1048576>>=fun x1=>
  I2 fu x1 syntaxReport>>=fun x2=>
  some x2
 else
  if (s.Verb == 6)=true then
   M3 fu s.NV 0 4096>>=fun x3=>
   I2 fu x3 syntaxReport>>=fun x4=>
   some x4
  else
   if (s.Verb == 7)=true then
    M3 fu s.Low (-1048576) 1048576>>=fun x5=>
    (if x5=true then M3 fu s.High s.Low 1048576 else some default)>>=fun x6=>
    I2 fu (bif (bif x5 then x6 else false) then (decide ((IntKind.i64.wrap (s.High - s.Low)) < 4096)) else false) syntaxReport>>=fun x7=>
    some x7
   else
    if (s.Verb == 8)=true then
     M3 fu ((s.Numbers).length:Int) 1 32>>=fun x8=>
     I2 fu x8 syntaxReport>>=fun x9=>
     U7 fu s x9 (-1) 0
    else
     some syntaxReport
theorem N9 (fu:Nat)(s:C0)(syntaxReport:J0):Le (Yj fu s syntaxReport) (C5 s syntaxReport):=by
 unfold Yj C5
 repeat (first | exact Le.rfl | exact A2 fu _ _ _ | exact J1 fu _ _ | exact Iv fu _ _ _ _ | exact R0 _ | refine Le.bind ?_ (fun _=>?_) | refine Le.ite ?_ ?_)
mutual
def P6:Nat→(List C0)→Int→J0→Option J0
 | 0,_,_,_=>none
 | fu+1,l,nesting,syntaxReport=>
  De fu l nesting syntaxReport 0
def De:Nat→(List C0)→Int→J0→Int→Option J0
 | 0,_,_,_,_=>none
 | fu+1,l,nesting,o03,v14=>
  if (decide (v14 < ((l).length:Int)))=true then
   idx l v14>>=fun x1=>
   Ud fu nesting (J0.mk (IntKind.i64.wrap (o03.nodes+1)) o03.depth o03.badForm o03.badName o03.badNumber)>>=fun x2=>
   Jo fu x1.Verb>>=fun x3=>
   W0 fu x3.2 x2>>=fun x4=>
   M9 fu x1.Place x3.1.place x4>>=fun x5=>
   if x3.1.place=true then
    To fu x1.Place>>=fun x6=>
    W0 fu x6 x5>>=fun x7=>
    Ee fu l nesting x7 x1 x3 v14
   else
    Ee fu l nesting x5 x1 x3 v14
  else
   some o03
def Ee:Nat→(List C0)→Int→J0→C0→(I1×Bool)→Int→Option J0
 | 0,_,_,_,_,_,_=>none
 | fu+1,l,nesting,o0,x1,x3,v141=>
  M9 fu x1.Value x3.1.value o0>>=fun x8=>
  W0 fu (bif x3.1.name then true else (x1.Name == [])) x8>>=fun x9=>
  if x3.1.name=true then
   P7 fu x1.Name x9>>=fun x10=>
   Fe fu l nesting x10 x1 x3 v141
  else
   Fe fu l nesting x9 x1 x3 v141
def Fe:Nat→(List C0)→Int→J0→C0→(I1×Bool)→Int→Option J0
 | 0,_,_,_,_,_,_=>none
 | fu+1,l,nesting,o01,x1,x3,v142=>
  W0 fu (bif x3.1.args then true else (((x1.Args).length:Int) == 0)) o01>>=fun x11=>
  Ge fu l nesting x11 x1 x3 v142 0
def Ge:Nat→(List C0)→Int→J0→C0→(I1×Bool)→Int→Int→Option J0
 | 0,_,_,_,_,_,_,_=>none
 | fu+1,l,nesting,o02,x1,x3,v143,v84=>
  if (decide (v84 < ((x1.Args).length:Int)))=true then
   idx x1.Args v84>>=fun x12=>
   Q7 fu x12 1 o02>>=fun x13=>
   Ge fu l nesting x13 x1 x3 v143 (IntKind.i64.wrap (v84+1))
  else
   W0 fu (bif x3.1.n then true else (x1.NV == 0)) o02>>=fun x14=>
   W0 fu (bif x3.1.bounds then true else (bif (x1.Low == 0) then (x1.High == 0) else false)) x14>>=fun x15=>
   W0 fu (bif x3.1.numbers then true else (((x1.Numbers).length:Int) == 0)) x15>>=fun x16=>
   W0 fu (bif x3.1.thenV then true else (((x1.Then).length:Int) == 0)) x16>>=fun x17=>
   W0 fu (bif x3.1.other then true else (((x1.Else).length:Int) == 0)) x17>>=fun x18=>
   Yj fu x1 x18>>=fun x19=>
   P6 fu x1.Then (IntKind.i64.wrap (nesting+1)) x19>>=fun x20=>
   P6 fu x1.Else (IntKind.i64.wrap (nesting+1)) x20>>=fun x21=>
   De fu l nesting x21 (IntKind.i64.wrap (v143+1))
end
theorem P10 (fu:Nat):(∀ (l:List C0) (nesting:Int) (syntaxReport:J0),Le (P6 fu l nesting syntaxReport) (J2 l nesting syntaxReport))∧(∀ (l:List C0) (nesting:Int) (o03:J0) (v14:Int),Le (De fu l nesting o03 v14) (R3 l nesting o03 v14))∧(∀ (l:List C0) (nesting:Int) (o0:J0) (x1:C0) (x3:I1×Bool) (v141:Int),Le (Ee fu l nesting o0 x1 x3 v141) (M4 l nesting o0 x1 x3 v141))∧(∀ (l:List C0) (nesting:Int) (o01:J0) (x1:C0) (x3:I1×Bool) (v142:Int),Le (Fe fu l nesting o01 x1 x3 v142) (N4 l nesting o01 x1 x3 v142))∧(∀ (l:List C0) (nesting:Int) (o02:J0) (x1:C0) (x3:I1×Bool) (v143:Int) (v84:Int),Le (Ge fu l nesting o02 x1 x3 v143 v84) (C6 l nesting o02 x1 x3 v143 v84)):=by
 induction fu with
 | zero=>exact ⟨fun _ _ _=>Le.none,fun _ _ _ _=>Le.none,fun _ _ _ _ _ _=>Le.none,fun _ _ _ _ _ _=>Le.none,fun _ _ _ _ _ _ _=>Le.none⟩
 | succ fu ih=>
  obtain ⟨ih0,ih1,ih2,ih3,ih4⟩:=ih
  refine ⟨fun l nesting syntaxReport=>?_,fun l nesting o03 v14=>?_,fun l nesting o0 x1 x3 v141=>?_,fun l nesting o01 x1 x3 v142=>?_,fun l nesting o02 x1 x3 v143 v84=>?_⟩
  ·rw [P6,J2]
   repeat (first | exact Le.rfl | exact ih0 _ _ _ | exact ih1 _ _ _ _ | exact ih2 _ _ _ _ _ _ | exact ih3 _ _ _ _ _ _ | exact ih4 _ _ _ _ _ _ _ | exact V1 fu _ _ | exact Cg fu _ | exact D1 fu _ _ | exact P2 fu _ _ _ | exact U6 fu _ | exact G1 fu _ _ | exact N6 fu _ _ _ | exact N9 fu _ _ | exact R0 _ | refine Le.bind ?_ (fun _=>?_) | refine Le.ite ?_ ?_)
  ·rw [De,R3]
   repeat (first | exact Le.rfl | exact ih0 _ _ _ | exact ih1 _ _ _ _ | exact ih2 _ _ _ _ _ _ | exact ih3 _ _ _ _ _ _ | exact ih4 _ _ _ _ _ _ _ | exact V1 fu _ _ | exact Cg fu _ | exact D1 fu _ _ | exact P2 fu _ _ _ | exact U6 fu _ | exact G1 fu _ _ | exact N6 fu _ _ _ | exact N9 fu _ _ | exact R0 _ | refine Le.bind ?_ (fun _=>?_) | refine Le.ite ?_ ?_)
  ·rw [Ee,M4]
   repeat (first | exact Le.rfl | exact ih0 _ _ _ | exact ih1 _ _ _ _ | exact ih2 _ _ _ _ _ _ | exact ih3 _ _ _ _ _ _ | exact ih4 _ _ _ _ _ _ _ | exact V1 fu _ _ | exact Cg fu _ | exact D1 fu _ _ | exact P2 fu _ _ _ | exact U6 fu _ | exact G1 fu _ _ | exact N6 fu _ _ _ | exact N9 fu _ _ | exact R0 _ | refine Le.bind ?_ (fun _=>?_) | refine Le.ite ?_ ?_)
  ·rw [Fe,N4]
   repeat (first | exact Le.rfl | exact ih0 _ _ _ | exact ih1 _ _ _ _ | exact ih2 _ _ _ _ _ _ | exact ih3 _ _ _ _ _ _ | exact ih4 _ _ _ _ _ _ _ | exact V1 fu _ _ | exact Cg fu _ | exact D1 fu _ _ | exact P2 fu _ _ _ | exact U6 fu _ | exact G1 fu _ _ | exact N6 fu _ _ _ | exact N9 fu _ _ | exact R0 _ | refine Le.bind ?_ (fun _=>?_) | refine Le.ite ?_ ?_)
  ·rw [Ge,C6]
   repeat (first | exact Le.rfl | exact ih0 _ _ _ | exact ih1 _ _ _ _ | exact ih2 _ _ _ _ _ _ | exact ih3 _ _ _ _ _ _ | exact ih4 _ _ _ _ _ _ _ | exact V1 fu _ _ | exact Cg fu _ | exact D1 fu _ _ | exact P2 fu _ _ _ | exact U6 fu _ | exact G1 fu _ _ | exact N6 fu _ _ _ | exact N9 fu _ _ | exact R0 _ | refine Le.bind ?_ (fun _=>?_) | refine Le.ite ?_ ?_)
theorem B8 (fu:Nat)(l:List C0)(nesting:Int)(syntaxReport:J0):Le (P6 fu l nesting syntaxReport) (J2 l nesting syntaxReport):=(P10 fu).1 l nesting syntaxReport
mutual
def Y8:Nat→(List D0)→J0→Option J0
 | 0,_,_=>none
 | fu+1,l,syntaxReport=>
  He fu l syntaxReport 0
def He:Nat→(List D0)→J0→Int→Option J0
 | 0,_,_,_=>none
 | fu+1,l,o03,v15=>
  if (decide (v15 < ((l).length:Int)))=true then
   idx l v15>>=fun x1=>
   Jp fu x1.Kind>>=fun x2=>
   W0 fu x2.1 (J0.mk (IntKind.i64.wrap (o03.nodes+1)) o03.depth o03.badForm o03.badName o03.badNumber)>>=fun x3=>
   (if (!x2.1)=true then Oh fu x1.TypeV (F0.mk 0 0 0 0 [] [] []) else some default)>>=fun x4=>
   if (bif x2.1 then true else (!x4))=true then
    Ag fu x1.TypeV 1 x3>>=fun x5=>
    Ie fu l x5 x1 x2 v15
   else
    Ie fu l x3 x1 x2 v15
  else
   some o03
def Ie:Nat→(List D0)→J0→D0→(Bool×Bool)→Int→Option J0
 | 0,_,_,_,_,_=>none
 | fu+1,l,o0,x1,x2,v151=>
  P7 fu x1.Name o0>>=fun x6=>
  M9 fu x1.Value x2.2 x6>>=fun x7=>
  W0 fu (bif (x1.Kind == 4) then true else (x1.Init == 0)) x7>>=fun x8=>
  M3 fu x1.Init (-1048576) 1048576>>=fun x9=>
  (if (x9&&(!(x1.TypeV.Kind != 0)))=true then M3 fu x1.Init 0 1 else some default)>>=fun x10=>
  I2 fu (bif x9 then (bif (x1.TypeV.Kind != 0) then true else x10) else false) x8>>=fun x11=>
  W0 fu (bif (x1.Kind == 6) then true else (bif (bif (((x1.Params).length:Int) == 0) then (((x1.Vars).length:Int) == 0) else false) then (((x1.Body).length:Int) == 0) else false)) x11>>=fun x12=>
  Je fu l x12 x1 v151 0
def Je:Nat→(List D0)→J0→D0→Int→Int→Option J0
 | 0,_,_,_,_,_=>none
 | fu+1,l,o01,x1,v152,v109=>
  if (decide (v109 < ((x1.Params).length:Int)))=true then
   idx x1.Params v109>>=fun x13=>
   W0 fu (bif (x13.Kind == 4) then (x13.Init == 0) else false) o01>>=fun x14=>
   Je fu l x14 x1 v152 (IntKind.i64.wrap (v109+1))
  else
   Ke fu l o01 x1 v152 0
def Ke:Nat→(List D0)→J0→D0→Int→Int→Option J0
 | 0,_,_,_,_,_=>none
 | fu+1,l,o02,x1,v153,v127=>
  if (decide (v127 < ((x1.Vars).length:Int)))=true then
   idx x1.Vars v127>>=fun x15=>
   W0 fu (x15.Kind == 4) o02>>=fun x16=>
   Ke fu l x16 x1 v153 (IntKind.i64.wrap (v127+1))
  else
   Y8 fu x1.Params o02>>=fun x17=>
   Y8 fu x1.Vars x17>>=fun x18=>
   P6 fu x1.Body 1 x18>>=fun x19=>
   He fu l x19 (IntKind.i64.wrap (v153+1))
end
theorem Q10 (fu:Nat):(∀ (l:List D0) (syntaxReport:J0),Le (Y8 fu l syntaxReport) (L3 l syntaxReport))∧(∀ (l:List D0) (o03:J0) (v15:Int),Le (He fu l o03 v15) (P4 l o03 v15))∧(∀ (l:List D0) (o0:J0) (x1:D0) (x2:Bool×Bool) (v151:Int),Le (Ie fu l o0 x1 x2 v151) (D6 l o0 x1 x2 v151))∧(∀ (l:List D0) (o01:J0) (x1:D0) (v152:Int) (v109:Int),Le (Je fu l o01 x1 v152 v109) (Q4 l o01 x1 v152 v109))∧(∀ (l:List D0) (o02:J0) (x1:D0) (v153:Int) (v127:Int),Le (Ke fu l o02 x1 v153 v127) (F6 l o02 x1 v153 v127)):=by
 induction fu with
 | zero=>exact ⟨fun _ _=>Le.none,fun _ _ _=>Le.none,fun _ _ _ _ _=>Le.none,fun _ _ _ _ _=>Le.none,fun _ _ _ _ _=>Le.none⟩
 | succ fu ih=>
  obtain ⟨ih0,ih1,ih2,ih3,ih4⟩:=ih
  refine ⟨fun l syntaxReport=>?_,fun l o03 v15=>?_,fun l o0 x1 x2 v151=>?_,fun l o01 x1 v152 v109=>?_,fun l o02 x1 v153 v127=>?_⟩
  ·rw [Y8,L3]
   repeat (first | exact Le.rfl | exact ih0 _ _ | exact ih1 _ _ _ | exact ih2 _ _ _ _ _ | exact ih3 _ _ _ _ _ | exact ih4 _ _ _ _ _ | exact Nh fu _ | exact D1 fu _ _ | exact Zf fu _ _ | exact Ce fu _ _ _ | exact G1 fu _ _ | exact P2 fu _ _ _ | exact A2 fu _ _ _ | exact J1 fu _ _ | exact B8 fu _ _ _ | exact R0 _ | refine Le.bind ?_ (fun _=>?_) | refine Le.ite ?_ ?_)
  ·rw [He,P4]
   repeat (first | exact Le.rfl | exact ih0 _ _ | exact ih1 _ _ _ | exact ih2 _ _ _ _ _ | exact ih3 _ _ _ _ _ | exact ih4 _ _ _ _ _ | exact Nh fu _ | exact D1 fu _ _ | exact Zf fu _ _ | exact Ce fu _ _ _ | exact G1 fu _ _ | exact P2 fu _ _ _ | exact A2 fu _ _ _ | exact J1 fu _ _ | exact B8 fu _ _ _ | exact R0 _ | refine Le.bind ?_ (fun _=>?_) | refine Le.ite ?_ ?_)
  ·rw [Ie,D6]
   repeat (first | exact Le.rfl | exact ih0 _ _ | exact ih1 _ _ _ | exact ih2 _ _ _ _ _ | exact ih3 _ _ _ _ _ | exact ih4 _ _ _ _ _ | exact Nh fu _ | exact D1 fu _ _ | exact Zf fu _ _ | exact Ce fu _ _ _ | exact G1 fu _ _ | exact P2 fu _ _ _ | exact A2 fu _ _ _ | exact J1 fu _ _ | exact B8 fu _ _ _ | exact R0 _ | refine Le.bind ?_ (fun _=>?_) | refine Le.ite ?_ ?_)
  ·rw [Je,Q4]
   repeat (first | exact Le.rfl | exact ih0 _ _ | exact ih1 _ _ _ | exact ih2 _ _ _ _ _ | exact ih3 _ _ _ _ _ | exact ih4 _ _ _ _ _ | exact Nh fu _ | exact D1 fu _ _ | exact Zf fu _ _ | exact Ce fu _ _ _ | exact G1 fu _ _ | exact P2 fu _ _ _ | exact A2 fu _ _ _ | exact J1 fu _ _ | exact B8 fu _ _ _ | exact R0 _ | refine Le.bind ?_ (fun _=>?_) | refine Le.ite ?_ ?_)
  ·rw [Ke,F6]
   repeat (first | exact Le.rfl | exact ih0 _ _ | exact ih1 _ _ _ | exact ih2 _ _ _ _ _ | exact ih3 _ _ _ _ _ | exact ih4 _ _ _ _ _ | exact Nh fu _ | exact D1 fu _ _ | exact Zf fu _ _ | exact Ce fu _ _ _ | exact G1 fu _ _ | exact P2 fu _ _ _ | exact A2 fu _ _ _ | exact J1 fu _ _ | exact B8 fu _ _ _ | exact R0 _ | refine Le.bind ?_ (fun _=>?_) | refine Le.ite ?_ ?_)
theorem H12 (fu:Nat)(l:List D0)(syntaxReport:J0):Le (Y8 fu l syntaxReport) (L3 l syntaxReport):=(Q10 fu).1 l syntaxReport
def Xm (fu:Nat)(p:O0):Option J0:=
 Y8 fu p.Decls (J0.mk 0 0 false false false)>>=fun x1=>
 P6 fu p.Body 1 x1>>=fun x2=>
 some x2
theorem Ww (fu:Nat)(p:O0):Le (Xm fu p) (Ec p):=by
 unfold Xm Ec
 repeat (first | exact Le.rfl | exact H12 fu _ _ | exact B8 fu _ _ _ | exact R0 _ | refine Le.bind ?_ (fun _=>?_) | refine Le.ite ?_ ?_)
def Vt (fu:Nat)(p:O0):Option Int:=
 Xm fu p>>=fun x1=>
 Wd fu x1>>=fun x2=>
 some x2
theorem E1e (fu:Nat)(p:O0):Le (Vt fu p) (Gh p):=by
 unfold Vt Gh
 repeat (first | exact Le.rfl | exact Ww fu _ | exact Gm fu _ | exact R0 _ | refine Le.bind ?_ (fun _=>?_) | refine Le.ite ?_ ?_)
mutual
def Z5:Nat→F0→Str→Option Str
 | 0,_,_=>none
 | fu+1,t,b=>
  if (t.Kind == 0)=true then
   I0 [98,111,111,108] b>>=fun x1=>
   some x1.2
  else
   if (t.Kind == 1)=true then
    Ii t.Low>>=fun x2=>
    if (decide (4+x2.length≤maxLen))=true then
     if (decide (([105,110,116,91]++x2).length+2≤maxLen))=true then
      Ii t.High>>=fun x3=>
      if (decide ((([105,110,116,91]++x2)++[46,46]).length+x3.length≤maxLen))=true then
       if (decide (((([105,110,116,91]++x2)++[46,46])++x3).length+1≤maxLen))=true then
        I0 (((([105,110,116,91]++x2)++[46,46])++x3)++[93]) b>>=fun x4=>
        some x4.2
       else none
      else none
     else none
    else none
   else
    if (t.Kind == 2)=true then
     Ii t.Size>>=fun x5=>
     if (decide (6+x5.length≤maxLen))=true then
      if (decide (([97,114,114,97,121,32]++x5).length+4≤maxLen))=true then
       I0 (([97,114,114,97,121,32]++x5)++[32,111,102,32]) b>>=fun x6=>
       idx t.Of 0>>=fun x7=>
       Z5 fu x7 x6.2>>=fun x14=>
       some x14
      else none
     else none
    else
     if (t.Kind == 3)=true then
      I0 [114,101,99,111,114,100,32,123] b>>=fun x8=>
      Lf fu t x8.2 0
     else
      if (t.Kind == 4)=true then
       I0 t.Name b>>=fun x9=>
       some x9.2
      else
       some b
def Lf:Nat→F0→Str→Int→Option Str
 | 0,_,_,_=>none
 | fu+1,t,b1,v56=>
  if (decide (v56 < ((t.Of).length:Int)))=true then
   idx t.Of v56>>=fun x10=>
   if (decide (v56 > 0))=true then
    I0 [44,32] b1>>=fun x16=>
    Mf fu t x16.2 x10 v56 v56
   else
    Mf fu t b1 x10 v56 v56
  else
   I0 [125] b1>>=fun x13=>
   some x13.2
def Mf:Nat→F0→Str→F0→Int→Int→Option Str
 | 0,_,_,_,_,_=>none
 | fu+1,t,b11,x10,i,v561=>
  idx t.Names i>>=fun x11=>
  if (decide (x11.length+2≤maxLen))=true then
   I0 (x11++[58,32]) b11>>=fun x12=>
   Z5 fu x10 x12.2>>=fun x15=>
   Lf fu t x15 (IntKind.i64.wrap (v561+1))
  else none
end
theorem I12 (fu:Nat):(∀ (t:F0) (b:Str),Le (Z5 fu t b) (W3 t b))∧(∀ (t:F0) (b1:Str) (v56:Int),Le (Lf fu t b1 v56) (Fc t b1 v56))∧(∀ (t:F0) (b11:Str) (x10:F0) (i:Int) (v561:Int),Le (Mf fu t b11 x10 i v561) (Gc t b11 x10 i v561)):=by
 induction fu with
 | zero=>exact ⟨fun _ _=>Le.none,fun _ _ _=>Le.none,fun _ _ _ _ _=>Le.none⟩
 | succ fu ih=>
  obtain ⟨ih0,ih1,ih2⟩:=ih
  refine ⟨fun t b=>?_,fun t b1 v56=>?_,fun t b11 x10 i v561=>?_⟩
  ·rw [Z5,W3]
   repeat (first | exact Le.rfl | exact ih0 _ _ | exact ih1 _ _ _ | exact ih2 _ _ _ _ _ | exact R0 _ | refine Le.bind ?_ (fun _=>?_) | refine Le.ite ?_ ?_)
  ·rw [Lf,Fc]
   repeat (first | exact Le.rfl | exact ih0 _ _ | exact ih1 _ _ _ | exact ih2 _ _ _ _ _ | exact R0 _ | refine Le.bind ?_ (fun _=>?_) | refine Le.ite ?_ ?_)
  ·rw [Mf,Gc]
   repeat (first | exact Le.rfl | exact ih0 _ _ | exact ih1 _ _ _ | exact ih2 _ _ _ _ _ | exact R0 _ | refine Le.bind ?_ (fun _=>?_) | refine Le.ite ?_ ?_)
theorem Ei (fu:Nat)(t:F0)(b:Str):Le (Z5 fu t b) (W3 t b):=(I12 fu).1 t b
def S4 (fu:Nat)(name:Str)(t:F0)(b:Str):Option Str:=
 if (decide (name.length+2≤maxLen))=true then
  I0 (name++[58,32]) b>>=fun x1=>
  Z5 fu t x1.2>>=fun x2=>
  some x2
 else none
theorem Nf (fu:Nat)(name:Str)(t:F0)(b:Str):Le (S4 fu name t b) (S3 name t b):=by
 unfold S4 S3
 repeat (first | exact Le.rfl | exact Ei fu _ _ | exact R0 _ | refine Le.bind ?_ (fun _=>?_) | refine Le.ite ?_ ?_)
def Ea (fu:Nat)(x2:Str)(value:Str):Option Str:=
 if (decide (3+value.length≤maxLen))=true then
  I0 ([32,61,32]++value) x2>>=fun x4=>
  I0 [59,10] x4.2>>=fun x5=>
  some x5.2
 else none
theorem Ps (fu:Nat)(x2:Str)(value:Str):Le (Ea fu x2 value) (K5 x2 value):=by
 unfold Ea K5
 repeat (first | exact Le.rfl | exact R0 _ | refine Le.bind ?_ (fun _=>?_) | refine Le.ite ?_ ?_)
def Fd (fu:Nat)(d:D0)(b:Str):Option Str:=
 I0 [118,97,114,32] b>>=fun x1=>
 S4 fu d.Name d.TypeV x1.2>>=fun x2=>
 if (d.Init != 0)=true then
  Ii d.Init>>=fun x3=>
  if (d.TypeV.Kind == 0)=true then
   Ea fu x2 [116,114,117,101]
  else
   Ea fu x2 x3
 else
  I0 [59,10] x2>>=fun x5=>
  some x5.2
theorem Gn (fu:Nat)(d:D0)(b:Str):Le (Fd fu d b) (C7 d b):=by
 unfold Fd C7
 repeat (first | exact Le.rfl | exact Nf fu _ _ _ | exact Ps fu _ _ | exact R0 _ | refine Le.bind ?_ (fun _=>?_) | refine Le.ite ?_ ?_)
mutual
def O9:Nat→C0→Str→Int→Option Str
 | 0,_,_,_=>none
 | fu+1,s,b1,v163=>
  if (decide (v163 < ((s.Numbers).length:Int)))=true then
   idx s.Numbers v163>>=fun x25=>
   if (decide (v163 > 0))=true then
    I0 [44,32] b1>>=fun x28=>
    Me fu s x28.2 x25 v163
   else
    Me fu s b1 x25 v163
  else
   I0 [59] b1>>=fun x13=>
   some x13.2
def Me:Nat→C0→Str→Int→Int→Option Str
 | 0,_,_,_,_=>none
 | fu+1,s,b11,x25,v1631=>
  Ii x25>>=fun x26=>
  I0 x26 b11>>=fun x27=>
  O9 fu s x27.2 (IntKind.i64.wrap (v1631+1))
end
theorem Xv (fu:Nat):(∀ (s:C0) (b1:Str) (v163:Int),Le (O9 fu s b1 v163) (R4 s b1 v163))∧(∀ (s:C0) (b11:Str) (x25:Int) (v1631:Int),Le (Me fu s b11 x25 v1631) (Lb s b11 x25 v1631)):=by
 induction fu with
 | zero=>exact ⟨fun _ _ _=>Le.none,fun _ _ _ _=>Le.none⟩
 | succ fu ih=>
  obtain ⟨ih0,ih1⟩:=ih
  refine ⟨fun s b1 v163=>?_,fun s b11 x25 v1631=>?_⟩
  ·rw [O9,R4]
   repeat (first | exact Le.rfl | exact ih0 _ _ _ | exact ih1 _ _ _ _ | exact R0 _ | refine Le.bind ?_ (fun _=>?_) | refine Le.ite ?_ ?_)
  ·rw [Me,Lb]
   repeat (first | exact Le.rfl | exact ih0 _ _ _ | exact ih1 _ _ _ _ | exact R0 _ | refine Le.bind ?_ (fun _=>?_) | refine Le.ite ?_ ?_)
theorem Gd (fu:Nat)(s:C0)(b1:Str)(v163:Int):Le (O9 fu s b1 v163) (R4 s b1 v163):=(Xv fu).1 s b1 v163
mutual
def C8:Nat→(List C0)→Str→Str→Option Str
 | 0,_,_,_=>none
 | fu+1,l,margin,b=>
  Hd fu l margin b 0
def Hd:Nat→(List C0)→Str→Str→Int→Option Str
 | 0,_,_,_,_=>none
 | fu+1,l,margin,b1,v10=>
  if (decide (v10 < ((l).length:Int)))=true then
   idx l v10>>=fun x1=>
   I0 margin b1>>=fun x2=>
   Im fu x1 margin x2.2>>=fun x3=>
   I0 [10] x3>>=fun x4=>
   Hd fu l margin x4.2 (IntKind.i64.wrap (v10+1))
  else
   some b1
def Im:Nat→C0→Str→Str→Option Str
 | 0,_,_,_=>none
 | fu+1,s,margin,b=>
  if (s.Verb == 5)=true then
   I0 [105,102,32] b>>=fun x1=>
   F1 fu s.Value x1.2>>=fun x2=>
   D8 fu s.Then margin x2>>=fun x29=>
   if (decide (((s.Else).length:Int) > 0))=true then
    I0 [32,101,108,115,101] x29>>=fun x30=>
    D8 fu s.Else margin x30.2>>=fun x31=>
    some x31
   else
    some x29
  else
   if (s.Verb == 6)=true then
    I0 [119,104,105,108,101,32] b>>=fun x3=>
    F1 fu s.Value x3.2>>=fun x4=>
    Ii s.NV>>=fun x5=>
    if (decide (7+x5.length≤maxLen))=true then
     I0 ([32,108,105,109,105,116,32]++x5) x4>>=fun x6=>
     D8 fu s.Then margin x6.2>>=fun x32=>
     some x32
    else none
   else
    if (s.Verb == 7)=true then
     if (decide (4+s.Name.length≤maxLen))=true then
      if (decide (([102,111,114,32]++s.Name).length+3≤maxLen))=true then
       Ii s.Low>>=fun x7=>
       if (decide ((([102,111,114,32]++s.Name)++[32,61,32]).length+x7.length≤maxLen))=true then
        if (decide (((([102,111,114,32]++s.Name)++[32,61,32])++x7).length+4≤maxLen))=true then
         Ii s.High>>=fun x8=>
         if (decide ((((([102,111,114,32]++s.Name)++[32,61,32])++x7)++[32,116,111,32]).length+x8.length≤maxLen))=true then
          I0 ((((([102,111,114,32]++s.Name)++[32,61,32])++x7)++[32,116,111,32])++x8) b>>=fun x9=>
          D8 fu s.Then margin x9.2>>=fun x33=>
          some x33
         else none
        else none
       else none
      else none
     else none
    else
     if (s.Verb == 0)=true then
      F1 fu s.Place b>>=fun x10=>
      I0 [32,61,32] x10>>=fun x11=>
      F1 fu s.Value x11.2>>=fun x12=>
      I0 [59] x12>>=fun x13=>
      some x13.2
     else
      if (s.Verb == 1)=true then
       F1 fu s.Place b>>=fun x14=>
       if (decide (8+s.Name.length≤maxLen))=true then
        if (decide (([32,61,32,99,97,108,108,32]++s.Name).length+1≤maxLen))=true then
         I0 (([32,61,32,99,97,108,108,32]++s.Name)++[40]) x14>>=fun x15=>
         Ed fu s.Args x15.2>>=fun x16=>
         I0 [41] x16>>=fun x17=>
         I0 [59] x17.2>>=fun x13=>
         some x13.2
        else none
       else none
      else
       if (s.Verb == 2)=true then
        F1 fu s.Place b>>=fun x18=>
        if (decide (11+s.Name.length≤maxLen))=true then
         I0 ([32,61,32,114,101,108,101,97,115,101,32]++s.Name) x18>>=fun x19=>
         I0 [59] x19.2>>=fun x13=>
         some x13.2
        else none
       else
        if (s.Verb == 3)=true then
         I0 [111,117,116,112,117,116,32] b>>=fun x20=>
         F1 fu s.Value x20.2>>=fun x21=>
         I0 [59] x21>>=fun x13=>
         some x13.2
        else
         if (s.Verb == 4)=true then
          Ii s.NV>>=fun x22=>
          if (decide (5+x22.length≤maxLen))=true then
           I0 ([119,97,105,116,32]++x22) b>>=fun x23=>
           I0 [59] x23.2>>=fun x13=>
           some x13.2
          else none
         else
          if (s.Verb == 8)=true then
           I0 [115,101,116,116,108,101,32] b>>=fun x24=>
           O9 fu s x24.2 0
          else
           I0 [59] b>>=fun x13=>
           some x13.2
def D8:Nat→(List C0)→Str→Str→Option Str
 | 0,_,_,_=>none
 | fu+1,l,margin,b=>
  I0 [32,123,10] b>>=fun x1=>
  if (decide (margin.length+1≤maxLen))=true then
   C8 fu l (margin++[9]) x1.2>>=fun x2=>
   if (decide (margin.length+1≤maxLen))=true then
    I0 (margin++[125]) x2>>=fun x3=>
    some x3.2
   else none
  else none
end
theorem Sz (fu:Nat):(∀ (l:List C0) (margin:Str) (b:Str),Le (C8 fu l margin b) (K4 l margin b))∧(∀ (l:List C0) (margin:Str) (b1:Str) (v10:Int),Le (Hd fu l margin b1 v10) (Ga l margin b1 v10))∧(∀ (s:C0) (margin:Str) (b:Str),Le (Im fu s margin b) (Oj s margin b))∧(∀ (l:List C0) (margin:Str) (b:Str),Le (D8 fu l margin b) (K7 l margin b)):=by
 induction fu with
 | zero=>exact ⟨fun _ _ _=>Le.none,fun _ _ _ _=>Le.none,fun _ _ _=>Le.none,fun _ _ _=>Le.none⟩
 | succ fu ih=>
  obtain ⟨ih0,ih1,ih2,ih3⟩:=ih
  refine ⟨fun l margin b=>?_,fun l margin b1 v10=>?_,fun s margin b=>?_,fun l margin b=>?_⟩
  ·rw [C8,K4]
   repeat (first | exact Le.rfl | exact ih0 _ _ _ | exact ih1 _ _ _ _ | exact ih2 _ _ _ | exact ih3 _ _ _ | exact H6 fu _ _ | exact Tg fu _ _ | exact Gd fu _ _ _ | exact R0 _ | refine Le.bind ?_ (fun _=>?_) | refine Le.ite ?_ ?_)
  ·rw [Hd,Ga]
   repeat (first | exact Le.rfl | exact ih0 _ _ _ | exact ih1 _ _ _ _ | exact ih2 _ _ _ | exact ih3 _ _ _ | exact H6 fu _ _ | exact Tg fu _ _ | exact Gd fu _ _ _ | exact R0 _ | refine Le.bind ?_ (fun _=>?_) | refine Le.ite ?_ ?_)
  ·rw [Im,Oj]
   repeat (first | exact Le.rfl | exact ih0 _ _ _ | exact ih1 _ _ _ _ | exact ih2 _ _ _ | exact ih3 _ _ _ | exact H6 fu _ _ | exact Tg fu _ _ | exact Gd fu _ _ _ | exact R0 _ | refine Le.bind ?_ (fun _=>?_) | refine Le.ite ?_ ?_)
  ·rw [D8,K7]
   repeat (first | exact Le.rfl | exact ih0 _ _ _ | exact ih1 _ _ _ _ | exact ih2 _ _ _ | exact ih3 _ _ _ | exact H6 fu _ _ | exact Tg fu _ _ | exact Gd fu _ _ _ | exact R0 _ | refine Le.bind ?_ (fun _=>?_) | refine Le.ite ?_ ?_)
theorem Ep (fu:Nat)(l:List C0)(margin:Str)(b:Str):Le (C8 fu l margin b) (K4 l margin b):=(Sz fu).1 l margin b
def Q6:Nat→D0→Str→Int→Option Str
 | 0,_,_,_=>none
 | fu+1,d,b12,v52=>
  if (decide (v52 < ((d.Vars).length:Int)))=true then
   idx d.Vars v52>>=fun x8=>
   I0 [9] b12>>=fun x9=>
   Fd fu x8 x9.2>>=fun x10=>
   Q6 fu d x10 (IntKind.i64.wrap (v52+1))
  else
   C8 fu d.Body [9] b12>>=fun x11=>
   I0 [9,114,101,116,117,114,110,32] x11>>=fun x12=>
   F1 fu d.Value x12.2>>=fun x13=>
   I0 [59,10,125,10] x13>>=fun x14=>
   some x14.2
theorem Bs (fu:Nat):(∀ (d:D0) (b12:Str) (v52:Int),Le (Q6 fu d b12 v52) (F3 d b12 v52)):=by
 induction fu with
 | zero=>exact fun _ _ _=>Le.none
 | succ fu ih=>
  have ih0:=ih
  refine fun d b12 v52=>?_
  ·rw [Q6,F3]
   repeat (first | exact Le.rfl | exact ih0 _ _ _ | exact Gn fu _ _ | exact Ep fu _ _ _ | exact H6 fu _ _ | exact R0 _ | refine Le.bind ?_ (fun _=>?_) | refine Le.ite ?_ ?_)
theorem Cl (fu:Nat)(d:D0)(b12:Str)(v52:Int):Le (Q6 fu d b12 v52) (F3 d b12 v52):=(Bs fu) d b12 v52
mutual
def R6:Nat→D0→Str→Int→Option Str
 | 0,_,_,_=>none
 | fu+1,d,b1,v19=>
  if (decide (v19 < ((d.Params).length:Int)))=true then
   idx d.Params v19>>=fun x2=>
   if (decide (v19 > 0))=true then
    I0 [44,32] b1>>=fun x4=>
    Fa fu d x4.2 x2 v19
   else
    Fa fu d b1 x2 v19
  else
   I0 [41,58,32] b1>>=fun x5=>
   Z5 fu d.TypeV x5.2>>=fun x6=>
   I0 [32,123,10] x6>>=fun x7=>
   Q6 fu d x7.2 0
def Fa:Nat→D0→Str→D0→Int→Option Str
 | 0,_,_,_,_=>none
 | fu+1,d,b11,x2,v191=>
  S4 fu x2.Name x2.TypeV b11>>=fun x3=>
  R6 fu d x3 (IntKind.i64.wrap (v191+1))
end
theorem Cs (fu:Nat):(∀ (d:D0) (b1:Str) (v19:Int),Le (R6 fu d b1 v19) (G3 d b1 v19))∧(∀ (d:D0) (b11:Str) (x2:D0) (v191:Int),Le (Fa fu d b11 x2 v191) (S7 d b11 x2 v191)):=by
 induction fu with
 | zero=>exact ⟨fun _ _ _=>Le.none,fun _ _ _ _=>Le.none⟩
 | succ fu ih=>
  obtain ⟨ih0,ih1⟩:=ih
  refine ⟨fun d b1 v19=>?_,fun d b11 x2 v191=>?_⟩
  ·rw [R6,G3]
   repeat (first | exact Le.rfl | exact ih0 _ _ _ | exact ih1 _ _ _ _ | exact Ei fu _ _ | exact Cl fu _ _ _ | exact Nf fu _ _ _ | exact R0 _ | refine Le.bind ?_ (fun _=>?_) | refine Le.ite ?_ ?_)
  ·rw [Fa,S7]
   repeat (first | exact Le.rfl | exact ih0 _ _ _ | exact ih1 _ _ _ _ | exact Ei fu _ _ | exact Cl fu _ _ _ | exact Nf fu _ _ _ | exact R0 _ | refine Le.bind ?_ (fun _=>?_) | refine Le.ite ?_ ?_)
theorem Qs (fu:Nat)(d:D0)(b1:Str)(v19:Int):Le (R6 fu d b1 v19) (G3 d b1 v19):=(Cs fu).1 d b1 v19
def Aj (fu:Nat)(d:D0)(b:Str):Option Str:=
 if (decide (5+d.Name.length≤maxLen))=true then
  if (decide (([102,117,110,99,32]++d.Name).length+1≤maxLen))=true then
   I0 (([102,117,110,99,32]++d.Name)++[40]) b>>=fun x1=>
   R6 fu d x1.2 0
  else none
 else none
theorem Yv (fu:Nat)(d:D0)(b:Str):Le (Aj fu d b) (Ha d b):=by
 unfold Aj Ha
 repeat (first | exact Le.rfl | exact Qs fu _ _ _ | exact R0 _ | refine Le.bind ?_ (fun _=>?_) | refine Le.ite ?_ ?_)
def Jm (fu:Nat)(d:D0)(b:Str):Option Str:=
 if (d.Kind == 4)=true then
  Fd fu d b>>=fun x1=>
  some x1
 else
  if (d.Kind == 6)=true then
   Aj fu d b>>=fun x2=>
   some x2
  else
   if (d.Kind == 0)=true then
    if (decide (5+d.Name.length≤maxLen))=true then
     if (decide (([116,121,112,101,32]++d.Name).length+3≤maxLen))=true then
      I0 (([116,121,112,101,32]++d.Name)++[32,61,32]) b>>=fun x3=>
      Z5 fu d.TypeV x3.2>>=fun x4=>
      I0 [59,10] x4>>=fun x5=>
      some x5.2
     else none
    else none
   else
    if (d.Kind == 1)=true then
     I0 [115,101,99,114,101,116,32] b>>=fun x6=>
     S4 fu d.Name d.TypeV x6.2>>=fun x7=>
     I0 [59,10] x7>>=fun x5=>
     some x5.2
    else
     if (d.Kind == 2)=true then
      I0 [112,117,98,108,105,99,32] b>>=fun x8=>
      S4 fu d.Name d.TypeV x8.2>>=fun x9=>
      I0 [59,10] x9>>=fun x5=>
      some x5.2
     else
      if (d.Kind == 3)=true then
       I0 [114,97,110,100,111,109,32] b>>=fun x10=>
       S4 fu d.Name d.TypeV x10.2>>=fun x11=>
       I0 [59,10] x11>>=fun x5=>
       some x5.2
      else
       if (d.Kind == 5)=true then
        I0 [104,97,116,99,104,32] b>>=fun x12=>
        S4 fu d.Name d.TypeV x12.2>>=fun x13=>
        I0 [32,61,32] x13>>=fun x14=>
        F1 fu d.Value x14.2>>=fun x15=>
        I0 [59,10] x15>>=fun x5=>
        some x5.2
       else
        I0 [59,10] b>>=fun x5=>
        some x5.2
theorem J12 (fu:Nat)(d:D0)(b:Str):Le (Jm fu d b) (Uf d b):=by
 unfold Jm Uf
 repeat (first | exact Le.rfl | exact Gn fu _ _ | exact Yv fu _ _ | exact Ei fu _ _ | exact Nf fu _ _ _ | exact H6 fu _ _ | exact R0 _ | refine Le.bind ?_ (fun _=>?_) | refine Le.ite ?_ ?_)
def Si:Nat→O0→Str→Int→Option (Str×Int)
 | 0,_,_,_=>none
 | fu+1,p,b2,v18=>
  if (decide (v18 < ((p.Decls).length:Int)))=true then
   idx p.Decls v18>>=fun x2=>
   Jm fu x2 b2>>=fun x3=>
   Si fu p x3 (IntKind.i64.wrap (v18+1))
  else
   I0 [98,101,103,105,110,10] b2>>=fun x4=>
   C8 fu p.Body [9] x4.2>>=fun x5=>
   I0 [101,110,100,10] x5>>=fun x6=>
   Di fu x6.2>>=fun x7=>
   some (x7.1,x7.2)
theorem E18 (fu:Nat):(∀ (p:O0) (b2:Str) (v18:Int),Le (Si fu p b2 v18) (Ja p b2 v18)):=by
 induction fu with
 | zero=>exact fun _ _ _=>Le.none
 | succ fu ih=>
  have ih0:=ih
  refine fun p b2 v18=>?_
  ·rw [Si,Ja]
   repeat (first | exact Le.rfl | exact ih0 _ _ _ | exact J12 fu _ _ | exact Ep fu _ _ _ | exact Cq fu _ | exact R0 _ | refine Le.bind ?_ (fun _=>?_) | refine Le.ite ?_ ?_)
theorem S19 (fu:Nat)(p:O0)(b2:Str)(v18:Int):Le (Si fu p b2 v18) (Ja p b2 v18):=(E18 fu) p b2 v18
def Wt (fu:Nat)(p:O0):Option (Str×Int):=
 Vt fu p>>=fun x1=>
 if (x1 != 0)=true then
  some ([],x1)
 else
  Si fu p [] 0
theorem F1e (fu:Nat)(p:O0):Le (Wt fu p) (Bo p):=by
 unfold Wt Bo
 repeat (first | exact Le.rfl | exact E1e fu _ | exact S19 fu _ _ _ | exact R0 _ | refine Le.bind ?_ (fun _=>?_) | refine Le.ite ?_ ?_)
def Zv (fu:Nat)(p:O0):Option (Int×Int):=
 Xm fu p>>=fun x1=>
 Wd fu x1>>=fun x2=>
 if (x2 != 0)=true then
  some (0,x2)
 else
  some (x1.nodes,0)
theorem K1f (fu:Nat)(p:O0):Le (Zv fu p) (Sp p):=by
 unfold Zv Sp
 repeat (first | exact Le.rfl | exact Ww fu _ | exact Gm fu _ | exact R0 _ | refine Le.bind ?_ (fun _=>?_) | refine Le.ite ?_ ?_)
def N16 (fu:Nat):Option Bool:=
 Bq fu 1>>=fun x1=>
 Bq fu 2>>=fun x2=>
 Td fu 8 [x1,x2]>>=fun x3=>
 Pb fu [120]>>=fun x4=>
 Td fu 6 [x4]>>=fun x5=>
 Td fu 10 [x3,x5]>>=fun x6=>
 Mh fu x6>>=fun x7=>
 Pb fu [97]>>=fun x8=>
 Pb fu [98]>>=fun x9=>
 Pb fu [99]>>=fun x10=>
 Td fu 9 [x9,x10]>>=fun x11=>
 Td fu 9 [x8,x11]>>=fun x12=>
 Mh fu x12>>=fun x13=>
 Pb fu [97]>>=fun x14=>
 Pb fu [98]>>=fun x15=>
 Td fu 9 [x14,x15]>>=fun x16=>
 Pb fu [99]>>=fun x17=>
 Td fu 9 [x16,x17]>>=fun x18=>
 Mh fu x18>>=fun x19=>
 Pb fu [112,105,110]>>=fun x20=>
 Wt fu (O0.mk [(D0.mk 1 [112,105,110] (F0.mk 1 0 9 0 [] [] []) 0 (A0.mk 0 0 [] []) [] [] []),(D0.mk 4 [120] (F0.mk 0 0 0 0 [] [] []) 1 (A0.mk 0 0 [] []) [] [] [])] [(C0.mk 3 (A0.mk 0 0 [] []) x20 [] [] 0 0 0 [] [] [])])>>=fun x21=>
 Zv fu (O0.mk [(D0.mk 1 [112,105,110] (F0.mk 1 0 9 0 [] [] []) 0 (A0.mk 0 0 [] []) [] [] []),(D0.mk 4 [120] (F0.mk 0 0 0 0 [] [] []) 1 (A0.mk 0 0 [] []) [] [] [])] [(C0.mk 3 (A0.mk 0 0 [] []) x20 [] [] 0 0 0 [] [] [])])>>=fun x22=>
 if (bif (bif (bif (bif (bif (x7.2 != 0) then true else (x13.2 != 0)) then true else (x19.2 != 0)) then true else (x21.2 != 0)) then true else (x22.2 != 0)) then true else (x22.1 != 6))=true then
  some false
 else
  (if (bif (bif (bif (x7.1 == [40,49,32,43,32,50,41,32,42,32,45,120]) then (x13.1 == [97,32,45,32,40,98,32,45,32,99,41]) else false) then (x19.1 == [97,32,45,32,98,32,45,32,99]) else false) then (x21.1 == [115,101,99,114,101,116,32,112,105,110,58,32,105,110,116,91,48,46,46,57,93,59,10,118,97,114,32,120,58,32,98,111,111,108,32,61,32,116,114,117,101,59,10,98,101,103,105,110,10,9,111,117,116,112,117,116,32,112,105,110,59,10,101,110,100,10]) else false)=true then Bq fu (-1) else some default)>>=fun x23=>
  (if (bif (bif (bif (x7.1 == [40,49,32,43,32,50,41,32,42,32,45,120]) then (x13.1 == [97,32,45,32,40,98,32,45,32,99,41]) else false) then (x19.1 == [97,32,45,32,98,32,45,32,99]) else false) then (x21.1 == [115,101,99,114,101,116,32,112,105,110,58,32,105,110,116,91,48,46,46,57,93,59,10,118,97,114,32,120,58,32,98,111,111,108,32,61,32,116,114,117,101,59,10,98,101,103,105,110,10,9,111,117,116,112,117,116,32,112,105,110,59,10,101,110,100,10]) else false)=true then Sk fu x23 else some default)>>=fun x24=>
  some (bif (bif (bif (bif (x7.1 == [40,49,32,43,32,50,41,32,42,32,45,120]) then (x13.1 == [97,32,45,32,40,98,32,45,32,99,41]) else false) then (x19.1 == [97,32,45,32,98,32,45,32,99]) else false) then (x21.1 == [115,101,99,114,101,116,32,112,105,110,58,32,105,110,116,91,48,46,46,57,93,59,10,118,97,114,32,120,58,32,98,111,111,108,32,61,32,116,114,117,101,59,10,98,101,103,105,110,10,9,111,117,116,112,117,116,32,112,105,110,59,10,101,110,100,10]) else false) then (x24 == 3) else false)
theorem L1f (fu:Nat):Le (N16 fu ) (Yk ):=by
 unfold N16 Yk
 repeat (first | exact Le.rfl | exact I1j fu _ | exact F1h fu _ _ | exact G1h fu _ | exact C18 fu _ | exact F1e fu _ | exact K1f fu _ | exact Bt fu _ | exact R0 _ | refine Le.bind ?_ (fun _=>?_) | refine Le.ite ?_ ?_)
end Go.Proofs.YtbmlpamppbcdeaaGreatDoor

