/- A part of the proof of SyntaxNames. -/
import Derived.Test.YtbmlpamppbcdeaaGreatDoorDgA
import Derived.Test.YtbmlpamppbcdeaaGreatDoorAmB
set_option maxRecDepth 100000
set_option maxHeartbeats 4000000
set_option synthInstance.maxSize 20000
set_option linter.unusedVariables false
namespace Go.Proofs.YtbmlpamppbcdeaaGreatDoor
open Go.Am
mutual
def N4 (e:A0):Option Bool:=
 (if (bif (e.Op == 3) then true else (e.Op == 4))=true then Ub e.Name else some default)>>=fun x1=>
 if (bif (bif (e.Op == 3) then true else (e.Op == 4)) then (!x1) else false)=true then
  some false
 else
  Eb e 0
 partial_fixpoint
def Eb (e:A0)(i:Int):Option Bool:=
 if (decide (i < ((e.Kids).length:Int)))=true then
  idx e.Kids i>>=fun x2=>
  N4 x2>>=fun x3=>
  if (!x3)=true then
   some false
  else
   Eb e (IntKind.i64.wrap (i+1))
 else
  some true
 partial_fixpoint
end
abbrev At (e:A0)(res:Bool):Prop:=O0 C 125 [.agg (A0.cells e)] [] (Ret [] (.d (.bool res)))
abbrev X10 (e:A0)(i:Int)(res:Bool):Prop:=LM C 32 0 Tryz.f125 [1,1,0,1,4] [(1,.ref 0 0),(3,.d (.int .i64 i))] [.row (A0.cells e) 40] (Ret [] (.d (.bool res)))
theorem V12:(∀ e res,N4 e=some res→At e res)∧(∀ e i res,Eb e i=some res→X10 e i res):=by
 refine N4.mutual_partial_correctness _ _ ?_ ?_
 ·intro g1 ih1 e res hh
  obtain ⟨x1,hx1,hh⟩:=bs' hh
  refine O0.intro hC Tryz.func125 rfl rfl rfl (s' rfl rfl (L0.n hC rfl (e' rfl (S' (sg' 14 rfl (G' 5 rfl (a1' rfl (a1' rfl (po' rfl (G' 2 rfl (a1' rfl (AG.c rfl rfl (fun hg=>⟨hg,trivial⟩) (fun hw=>Fi (W1 hw hx1)) (a1' rfl ?_)))))))))))))
  refine pa' rfl (an' (n' (ci' rfl hh (fun hh=>?_) (fun hh=>?_))))
  ·cases hh
   exact t' rfl (re' (rt' rfl rfl rfl))
  exact sk' (S' (t' rfl (bk' (fw' (ih1 _ _ _ hh) rfl rfl rfl))))
 ·intro g0 g1 ih0 ih1 e i res hh
  refine D1.unroll (S' (p' 3 rfl (qe' rfl trivial (A0.lenA _) (e' rfl (ci' rfl hh (fun hh=>?_) (fun hh=>?_))))))
  ·obtain ⟨x2,hx2,hh⟩:=bs' hh
   obtain ⟨x3,hx3,hh⟩:=bs' hh
   refine sk' (S' (bk' (p' 3 rfl (i' rfl (T0 hx2) (A0.idx hx2) rfl (q' rfl (c' (ih0 _ _ hx3) rfl rfl (e' rfl (ci' rfl hh (fun hh=>?_) (fun hh=>?_)))))))))
   ·cases hh
    exact t' rfl (re' (rt' rfl rfl rfl))
   exact sk' (T' rfl (lw' (ih1 _ _ _ hh) rfl rfl rfl))
  cases hh
  exact ex' (t' rfl (re' (rt' rfl rfl rfl)))
theorem Gi {e res}(hh:N4 e=some res):At e res:=(V12).1 _ _ hh
mutual
def U6 (l:List C0):Option Bool:=
 R9 l 0
 partial_fixpoint
def R9 (l:List C0)(i:Int):Option Bool:=
 if (decide (i < ((l).length:Int)))=true then
  idx l i>>=fun x1=>
  Fh x1.Verb>>=fun x2=>
  (if x2=true then Ub x1.Name else some default)>>=fun x3=>
  (if (!(bif x2 then (!x3) else false))=true then N4 x1.Place else some default)>>=fun x4=>
  (if (!(bif (bif x2 then (!x3) else false) then true else (!x4)))=true then N4 x1.Value else some default)>>=fun x5=>
  (if (!(bif (bif (bif x2 then (!x3) else false) then true else (!x4)) then true else (!x5)))=true then U6 x1.Then else some default)>>=fun x6=>
  (if (!(bif (bif (bif (bif x2 then (!x3) else false) then true else (!x4)) then true else (!x5)) then true else (!x6)))=true then U6 x1.Else else some default)>>=fun x7=>
  if (bif (bif (bif (bif (bif x2 then (!x3) else false) then true else (!x4)) then true else (!x5)) then true else (!x6)) then true else (!x7))=true then
   some false
  else
   Yd l x1 i 0
 else
  some true
 partial_fixpoint
def Yd (l:List C0)(x1:C0)(i1:Int)(k:Int):Option Bool:=
 if (decide (k < ((x1.Args).length:Int)))=true then
  idx x1.Args k>>=fun x8=>
  N4 x8>>=fun x9=>
  if (!x9)=true then
   some false
  else
   Yd l x1 i1 (IntKind.i64.wrap (k+1))
 else
  R9 l (IntKind.i64.wrap (i1+1))
 partial_fixpoint
end
abbrev Nr (l:List C0)(res:Bool):Prop:=O0 C 98 [.d (.sl (C0.rows l))] [] (Ret [] (.d (.bool res)))
abbrev Fz (l:List C0)(i:Int)(res:Bool):Prop:=LM C 63 0 Tryz.f98 [1,0,1,4] [(0,.d (.sl (C0.rows l))),(3,.d (.int .i64 i))] [] (Ret [] (.d (.bool res)))
abbrev Gz (l:List C0)(x1:C0)(i1:Int)(k:Int)(res:Bool):Prop:=LM C 63 0 Tryz.f98 [1,0,1,4,5,1,0,4,1,1,1,4] [(0,.d (.sl (C0.rows l))),(3,.d (.int .i64 i1)),(4,.ref 0 0),(5,.d (.int .i64 k))] [.row (C0.cells x1) 79] (Ret [] (.d (.bool res)))
theorem Y10:(∀ l res,U6 l=some res→Nr l res)∧(∀ l i res,R9 l i=some res→Fz l i res)∧(∀ l x1 i1 k res,Yd l x1 i1 k=some res→Gz l x1 i1 k res):=by
 refine U6.mutual_partial_correctness _ _ _ ?_ ?_ ?_
 ·intro g1 ih1 l res hh
  exact O0.intro hC Tryz.func98 rfl rfl rfl (t' rfl (S' (t' rfl (bk' (fw' (ih1 _ _ _ hh) rfl rfl rfl)))))
 ·intro g0 g2 ih0 ih2 l i res hh
  refine D1.unroll (S' (p' 2 rfl (qe' rfl trivial (C0.lenA _) (e' rfl (ci' rfl hh (fun hh=>?_) (fun hh=>?_))))))
  ·obtain ⟨x1,hx1,hh⟩:=bs' hh
   obtain ⟨x2,hx2,hh⟩:=bs' hh
   obtain ⟨x3,hx3,hh⟩:=bs' hh
   obtain ⟨x4,hx4,hh⟩:=bs' hh
   obtain ⟨x5,hx5,hh⟩:=bs' hh
   obtain ⟨x6,hx6,hh⟩:=bs' hh
   obtain ⟨x7,hx7,hh⟩:=bs' hh
   refine sk' (S' (bk' (p' 2 rfl (i' rfl (T0 hx1) (C0.idx hx1) rfl (q' rfl (L0.nf hC rfl (L0.s hC rfl (n' (S' (sg' 33 rfl (G' 2 rfl (AG.c rfl rfl (fun _=>trivial) (fun _=>Lm hx2) (G' 2 rfl ?_)))))))))))))
   refine a1' rfl (AG.c rfl rfl (fun hg=>⟨hg,trivial⟩) (fun hw=>Fi (W1 hw hx3)) (a1' rfl (pa' rfl (G' 2 rfl (a1' rfl (AG.c rfl rfl (fun hg=>⟨hg,trivial⟩) (fun hw=>Gi (W1 hw hx4)) (a1' rfl (po' rfl (G' 2 rfl (a1' rfl (AG.c rfl rfl (fun hg=>⟨hg,trivial⟩) (fun hw=>Gi (W1 hw hx5)) (a1' rfl (po' rfl ?_)))))))))))))
   refine G' 2 rfl (a1' rfl (AG.c rfl rfl (fun hg=>⟨hg,trivial⟩) (fun hw=>ih0 _ _ (W1 hw hx6)) (a1' rfl (po' rfl (G' 2 rfl (a1' rfl (AG.c rfl rfl (fun hg=>⟨hg,trivial⟩) (fun hw=>ih0 _ _ (W1 hw hx7)) (a1' rfl (po' rfl (an' (n' (ci' rfl hh (fun hh=>?_) (fun hh=>?_)))))))))))))
   ·cases hh
    exact t' rfl (re' (rt' rfl rfl rfl))
   exact sk' (t' rfl (bk' (fw' (ih2 _ _ _ _ _ hh) rfl rfl rfl)))
  cases hh
  exact ex' (t' rfl (re' (rt' rfl rfl rfl)))
 ·intro g1 g2 ih1 ih2 l x1 i1 k res hh
  refine D1.unroll (S' (p' 3 rfl (qe' rfl trivial (A0.lenA _) (e' rfl (ci' rfl hh (fun hh=>?_) (fun hh=>?_))))))
  ·obtain ⟨x8,hx8,hh⟩:=bs' hh
   obtain ⟨x9,hx9,hh⟩:=bs' hh
   refine sk' (S' (bk' (p' 3 rfl (i' rfl (T0 hx8) (A0.idx hx8) rfl (q' rfl (c' (Gi hx9) rfl rfl (e' rfl (ci' rfl hh (fun hh=>?_) (fun hh=>?_)))))))))
   ·cases hh
    exact t' rfl (re' (rt' rfl rfl rfl))
   exact sk' (T' rfl (lw' (ih2 _ _ _ _ _ hh) rfl rfl rfl))
  exact ex' (T' rfl (lw' (ih1 _ _ _ hh) rfl rfl rfl))
theorem Tp {l res}(hh:U6 l=some res):Nr l res:=(Y10).1 _ _ hh
mutual
def I8 (l:List F0):Option Bool:=
 S9 l 0
 partial_fixpoint
def S9 (l:List F0)(i:Int):Option Bool:=
 if (decide (i < ((l).length:Int)))=true then
  idx l i>>=fun x1=>
  Ub x1.Name>>=fun x2=>
  (if (!(!x2))=true then N9 x1.TypeV else some default)>>=fun x3=>
  (if (!(bif (!x2) then true else (!x3)))=true then N4 x1.Value else some default)>>=fun x4=>
  (if (!(bif (bif (!x2) then true else (!x3)) then true else (!x4)))=true then I8 x1.Params else some default)>>=fun x5=>
  (if (!(bif (bif (bif (!x2) then true else (!x3)) then true else (!x4)) then true else (!x5)))=true then I8 x1.Vars else some default)>>=fun x6=>
  (if (!(bif (bif (bif (bif (!x2) then true else (!x3)) then true else (!x4)) then true else (!x5)) then true else (!x6)))=true then U6 x1.Body else some default)>>=fun x7=>
  if (bif (bif (bif (bif (bif (!x2) then true else (!x3)) then true else (!x4)) then true else (!x5)) then true else (!x6)) then true else (!x7))=true then
   some false
  else
   S9 l (IntKind.i64.wrap (i+1))
 else
  some true
 partial_fixpoint
end
abbrev Pr (l:List F0)(res:Bool):Prop:=O0 C 97 [.d (.sl (F0.rows l))] [] (Ret [] (.d (.bool res)))
abbrev Hz (l:List F0)(i:Int)(res:Bool):Prop:=LM C 49 0 Tryz.f97 [1,0,1,4] [(0,.d (.sl (F0.rows l))),(3,.d (.int .i64 i))] [] (Ret [] (.d (.bool res)))
theorem Z10:(∀ l res,I8 l=some res→Pr l res)∧(∀ l i res,S9 l i=some res→Hz l i res):=by
 refine I8.mutual_partial_correctness _ _ ?_ ?_
 ·intro g1 ih1 l res hh
  exact O0.intro hC Tryz.func97 rfl rfl rfl (t' rfl (S' (t' rfl (bk' (fw' (ih1 _ _ _ hh) rfl rfl rfl)))))
 ·intro g0 g1 ih0 ih1 l i res hh
  refine D1.unroll (S' (p' 2 rfl (qe' rfl trivial (F0.lenA _) (e' rfl (ci' rfl hh (fun hh=>?_) (fun hh=>?_))))))
  ·obtain ⟨x1,hx1,hh⟩:=bs' hh
   obtain ⟨x2,hx2,hh⟩:=bs' hh
   obtain ⟨x3,hx3,hh⟩:=bs' hh
   obtain ⟨x4,hx4,hh⟩:=bs' hh
   obtain ⟨x5,hx5,hh⟩:=bs' hh
   obtain ⟨x6,hx6,hh⟩:=bs' hh
   obtain ⟨x7,hx7,hh⟩:=bs' hh
   refine sk' (S' (bk' (p' 2 rfl (i' rfl (T0 hx1) (F0.idx hx1) rfl (q' rfl (L0.nf hC rfl (L0.s hC rfl (n' (sg' 34 rfl (G' 2 rfl (AG.c rfl rfl (fun _=>trivial) (fun _=>Fi hx2) (G' 3 rfl (a1' rfl ?_)))))))))))))
   refine AG.c rfl rfl (fun hg=>⟨hg,trivial⟩) (fun hw=>K14 (W1 hw hx3)) (a1' rfl (po' rfl (G' 2 rfl (a1' rfl (AG.c rfl rfl (fun hg=>⟨hg,trivial⟩) (fun hw=>Gi (W1 hw hx4)) (a1' rfl (po' rfl (G' 2 rfl (a1' rfl (AG.c rfl rfl (fun hg=>⟨hg,trivial⟩) (fun hw=>ih0 _ _ (W1 hw hx5)) (a1' rfl (po' rfl (G' 2 rfl ?_)))))))))))))
   refine a1' rfl (AG.c rfl rfl (fun hg=>⟨hg,trivial⟩) (fun hw=>ih0 _ _ (W1 hw hx6)) (a1' rfl (po' rfl (G' 2 rfl (a1' rfl (AG.c rfl rfl (fun hg=>⟨hg,trivial⟩) (fun hw=>Tp (W1 hw hx7)) (a1' rfl (po' rfl (an' (n' (ci' rfl hh (fun hh=>?_) (fun hh=>?_))))))))))))
   ·cases hh
    exact t' rfl (re' (rt' rfl rfl rfl))
   exact sk' (T' rfl (lw' (ih1 _ _ _ hh) rfl rfl rfl))
  cases hh
  exact ex' (t' rfl (re' (rt' rfl rfl rfl)))
theorem W12 {l res}(hh:I8 l=some res):Pr l res:=(Z10).1 _ _ hh
def Gf (n:Int):Option Bool:=
 some (bif (decide (n≥(-1048576))) then (decide (n≤1048576)) else false)
theorem Hi {n res}(hh:Gf n=some res):O0 C 189 [.d (.int .i64 n)] [] (Ret [] (.d (.bool res))):=by
 unfold Gf at hh
 cases hh
 exact O0.intro hC Tryz.func189 rfl rfl rfl (t' rfl (sg' 7 rfl (G' 4 rfl (a1' rfl (pa' rfl (a0' rfl (an' (n' (re' (rt' rfl rfl rfl))))))))))
mutual
def M7 (t:D0):Option Bool:=
 (if (t.Kind == 1)=true then Gf t.Low else some default)>>=fun x1=>
 (if ((t.Kind == 1)&&(!(!x1)))=true then Gf t.High else some default)>>=fun x2=>
 if (bif (bif (bif (t.Kind == 1) then (bif (bif (!x1) then true else (!x2)) then true else (decide (t.Low > t.High))) else false) then true else (bif (t.Kind == 2) then (bif (decide (t.Size < 1)) then true else (decide (t.Size > 32))) else false)) then true else (decide (((t.Of).length:Int) > 32)))=true then
  some false
 else
  S8 t 0
 partial_fixpoint
def S8 (t:D0)(i:Int):Option Bool:=
 if (decide (i < ((t.Of).length:Int)))=true then
  idx t.Of i>>=fun x3=>
  M7 x3>>=fun x4=>
  if (!x4)=true then
   some false
  else
   S8 t (IntKind.i64.wrap (i+1))
 else
  some true
 partial_fixpoint
end
abbrev Up (t:D0)(res:Bool):Prop:=O0 C 137 [.agg (D0.cells t)] [] (Ret [] (.d (.bool res)))
abbrev Cy (t:D0)(i:Int)(res:Bool):Prop:=LM C 61 0 Tryz.f137 [1,1,0,1,4] [(1,.ref 0 0),(3,.d (.int .i64 i))] [.row (D0.cells t) 48] (Ret [] (.d (.bool res)))
theorem Iz:(∀ t res,M7 t=some res→Up t res)∧(∀ t i res,S8 t i=some res→Cy t i res):=by
 refine M7.mutual_partial_correctness _ _ ?_ ?_
 ·intro g1 ih1 t res hh
  obtain ⟨x1,hx1,hh⟩:=bs' hh
  obtain ⟨x2,hx2,hh⟩:=bs' hh
  refine O0.intro hC Tryz.func137 rfl rfl rfl (s' rfl rfl (L0.n hC rfl (e' rfl (S' (sg' 43 rfl (G' 5 rfl (a1' rfl (AG.c rfl rfl (fun hg=>⟨hg,trivial⟩) (fun hw=>Hi (W1 hw hx1)) (a1' rfl (a1' rfl (a0' rfl (a1' rfl (AG.c rfl rfl (fun hg=>⟨hg,trivial⟩) (fun hw=>Hi (W1 hw hx2)) ?_)))))))))))))
  refine a1' rfl (pO' rfl (a1' rfl (a0' rfl (a1' rfl (a0' rfl (a1' rfl (a2' rfl (pO' rfl (pa' rfl (G' 2 rfl (a1' rfl (a1' rfl (a1' rfl ?_)))))))))))))
  refine a0' rfl (a1' rfl (a1' rfl (a1' rfl (a0' rfl (a1' rfl (a1' rfl (pO' rfl (pA' rfl (po' rfl (G' 2 rfl (a1' rfl (AG.qe hC rfl (fun hg=>⟨⟨hg,trivial⟩,trivial⟩) (D0.lenA _) (a1' rfl ?_)))))))))))))
  refine po' rfl (an' (n' (ci' rfl hh (fun hh=>?_) (fun hh=>?_))))
  ·cases hh
   exact t' rfl (re' (rt' rfl rfl rfl))
  exact sk' (S' (t' rfl (bk' (fw' (ih1 _ _ _ hh) rfl rfl rfl))))
 ·intro g0 g1 ih0 ih1 t i res hh
  refine D1.unroll (S' (p' 3 rfl (qe' rfl trivial (D0.lenA _) (e' rfl (ci' rfl hh (fun hh=>?_) (fun hh=>?_))))))
  ·obtain ⟨x3,hx3,hh⟩:=bs' hh
   obtain ⟨x4,hx4,hh⟩:=bs' hh
   refine sk' (S' (bk' (p' 3 rfl (i' rfl (T0 hx3) (D0.idx hx3) rfl (q' rfl (c' (ih0 _ _ hx4) rfl rfl (e' rfl (ci' rfl hh (fun hh=>?_) (fun hh=>?_)))))))))
   ·cases hh
    exact t' rfl (re' (rt' rfl rfl rfl))
   exact sk' (T' rfl (lw' (ih1 _ _ _ hh) rfl rfl rfl))
  cases hh
  exact ex' (t' rfl (re' (rt' rfl rfl rfl)))
theorem A11 {t res}(hh:M7 t=some res):Up t res:=(Iz).1 _ _ hh
mutual
def H3 (e:A0):Option Bool:=
 if (bif (e.Op == 0) then (bif (decide (e.NV < 0)) then true else (decide (e.NV > 1048576))) else false)=true then
  some false
 else
  T8 e 0
 partial_fixpoint
def T8 (e:A0)(i:Int):Option Bool:=
 if (decide (i < ((e.Kids).length:Int)))=true then
  idx e.Kids i>>=fun x1=>
  H3 x1>>=fun x2=>
  if (!x2)=true then
   some false
  else
   T8 e (IntKind.i64.wrap (i+1))
 else
  some true
 partial_fixpoint
end
abbrev Vp (e:A0)(res:Bool):Prop:=O0 C 126 [.agg (A0.cells e)] [] (Ret [] (.d (.bool res)))
abbrev Dy (e:A0)(i:Int)(res:Bool):Prop:=LM C 31 0 Tryz.f126 [1,1,0,1,4] [(1,.ref 0 0),(3,.d (.int .i64 i))] [.row (A0.cells e) 40] (Ret [] (.d (.bool res)))
theorem Jz:(∀ e res,H3 e=some res→Vp e res)∧(∀ e i res,T8 e i=some res→Dy e i res):=by
 refine H3.mutual_partial_correctness _ _ ?_ ?_
 ·intro g1 ih1 e res hh
  refine O0.intro hC Tryz.func126 rfl rfl rfl (s' rfl rfl (L0.n hC rfl (e' rfl (S' (sg' 13 rfl (G' 5 rfl (a1' rfl (a1' rfl (a1' rfl (a0' rfl (a1' rfl (a1' rfl (pO' rfl ?_)))))))))))))
  refine pa' rfl (an' (n' (ci' rfl hh (fun hh=>?_) (fun hh=>?_))))
  ·cases hh
   exact t' rfl (re' (rt' rfl rfl rfl))
  exact sk' (S' (t' rfl (bk' (fw' (ih1 _ _ _ hh) rfl rfl rfl))))
 ·intro g0 g1 ih0 ih1 e i res hh
  refine D1.unroll (S' (p' 3 rfl (qe' rfl trivial (A0.lenA _) (e' rfl (ci' rfl hh (fun hh=>?_) (fun hh=>?_))))))
  ·obtain ⟨x1,hx1,hh⟩:=bs' hh
   obtain ⟨x2,hx2,hh⟩:=bs' hh
   refine sk' (S' (bk' (p' 3 rfl (i' rfl (T0 hx1) (A0.idx hx1) rfl (q' rfl (c' (ih0 _ _ hx2) rfl rfl (e' rfl (ci' rfl hh (fun hh=>?_) (fun hh=>?_)))))))))
   ·cases hh
    exact t' rfl (re' (rt' rfl rfl rfl))
   exact sk' (T' rfl (lw' (ih1 _ _ _ hh) rfl rfl rfl))
  cases hh
  exact ex' (t' rfl (re' (rt' rfl rfl rfl)))
theorem Yg {e res}(hh:H3 e=some res):Vp e res:=(Jz).1 _ _ hh
def J5 (s:C0)(k:Int):Option Bool:=
 if (decide (k < ((s.Numbers).length:Int)))=true then
  idx s.Numbers k>>=fun x3=>
  (if (!(decide (x3 < 0)))=true then idx s.Numbers k else some default)>>=fun x4=>
  (if ((!(bif (decide (x3 < 0)) then true else (decide (x4 > 1048576))))&&(decide (k > 0)))=true then idx s.Numbers k else some default)>>=fun x5=>
  (if ((!(bif (decide (x3 < 0)) then true else (decide (x4 > 1048576))))&&(decide (k > 0)))=true then idx s.Numbers (IntKind.i64.wrap (k - 1)) else some default)>>=fun x6=>
  if (bif (bif (decide (x3 < 0)) then true else (decide (x4 > 1048576))) then true else (bif (decide (k > 0)) then (decide (x5≤x6)) else false))=true then
   some false
  else
   J5 s (IntKind.i64.wrap (k+1))
 else
  some true
 partial_fixpoint
abbrev Ym (s:C0)(k:Int)(res:Bool):Prop:=LM C 105 0 Tryz.f190 [1,1,1,1,0,1,2,1,1,4] [(1,.ref 0 0),(3,.d (.int .i64 k))] [.row (C0.cells s) 79] (Ret [] (.d (.bool res)))
theorem Ov (s:C0):(∀ k res,J5 s k=some res→Ym s k res):=by
 refine J5.partial_correctness s _ ?_
 ·intro g0 ih0 k res hh
  refine D1.unroll (S' (p' 3 rfl (qe' rfl trivial (ei64.lenA _) (e' rfl (ci' rfl hh (fun hh=>?_) (fun hh=>?_))))))
  ·obtain ⟨x3,hx3,hh⟩:=bs' hh
   obtain ⟨x4,hx4,hh⟩:=bs' hh
   obtain ⟨x5,hx5,hh⟩:=bs' hh
   obtain ⟨x6,hx6,hh⟩:=bs' hh
   refine sk' (S' (bk' (S' (AEx.drawG hC 32 rfl rfl rfl (G' 3 rfl (AG.i hC rfl rfl (fun _=>trivial) (fun hw=>⟨T0 hx3,ei64.idx hx3,rfl⟩) (G' 4 rfl (a1' rfl (a0' rfl (AG.i hC rfl rfl (fun hg=>⟨hg,hg,trivial⟩) (fun hw=>⟨T0 (W1 hw hx4),ei64.idx (W1 hw hx4),rfl⟩) (a1' rfl (a1' rfl (po' rfl ?_)))))))))))))
   refine G' 2 rfl (a1' rfl (a1' rfl (a0' rfl (a1' rfl (a0' rfl (AG.i hC rfl rfl (fun hg=>⟨hg,hg,trivial⟩) (fun hw=>⟨T0 (W1 hw hx5),ei64.idx (W1 hw hx5),rfl⟩) (a1' rfl (a0' rfl (a1' rfl (a0' rfl (a1' rfl (AG.i hC rfl rfl (fun hg=>⟨hg,hg,trivial⟩) (fun hw=>⟨T0 (W1 hw hx6),ei64.idx (W1 hw hx6),rfl⟩) (a1' rfl ?_)))))))))))))
   refine a2' rfl (pA' rfl (po' rfl (an' (n' (ci' rfl hh (fun hh=>?_) (fun hh=>?_))))))
   ·cases hh
    exact t' rfl (re' (rt' rfl rfl rfl))
   exact sk' (T' rfl (lw' (ih0 _ _ hh) rfl rfl rfl))
  cases hh
  exact ex' (t' rfl (re' (rt' rfl rfl rfl)))
theorem Lw {s k res}(hh:J5 s k=some res):Ym s k res:=(Ov s) _ _ hh
def Ig (s:C0):Option Bool:=
 if (s.Verb == 4)=true then
  some (bif (decide (s.NV≥0)) then (decide (s.NV≤1048576)) else false)
 else
  if (s.Verb == 6)=true then
   some (bif (decide (s.NV≥0)) then (decide (s.NV≤4096)) else false)
  else
   if (s.Verb == 7)=true then
    Gf s.Low>>=fun x1=>
    (if x1=true then Gf s.High else some default)>>=fun x2=>
    some (bif (bif (bif x1 then x2 else false) then (decide (s.Low≤s.High)) else false) then (decide ((IntKind.i64.wrap ((IntKind.i64.wrap (s.High - s.Low))+1))≤4096)) else false)
   else
    if (s.Verb == 8)=true then
     if (bif (decide (((s.Numbers).length:Int) < 1)) then true else (decide (((s.Numbers).length:Int) > 32)))=true then
      some false
     else
      J5 s 0
    else
     some true
theorem B11 {s res}(hh:Ig s=some res):O0 C 190 [.agg (C0.cells s)] [] (Ret [] (.d (.bool res))):=by
 unfold Ig at hh
 refine O0.intro hC Tryz.func190 rfl rfl rfl (s' rfl rfl (L0.n hC rfl (e' rfl (S' (t' rfl (ci' rfl hh (fun hh=>?_) (fun hh=>?_)))))))
 ·cases hh
  exact sg' 9 rfl (G' 5 rfl (a1' rfl (a1' rfl (pa' rfl (a0' rfl (an' (n' (re' (rt' rfl rfl rfl)))))))))
 refine sk' (S' (t' rfl (ci' rfl hh (fun hh=>?_) (fun hh=>?_))))
 ·cases hh
  exact sg' 9 rfl (G' 5 rfl (a1' rfl (a1' rfl (pa' rfl (a0' rfl (an' (n' (re' (rt' rfl rfl rfl)))))))))
 refine sk' (S' (t' rfl (ci' rfl hh (fun hh=>?_) (fun hh=>?_))))
 ·obtain ⟨x1,hx1,hh⟩:=bs' hh
  obtain ⟨x2,hx2,hh⟩:=bs' hh
  cases hh
  refine sg' 25 rfl (G' 2 rfl (AG.c rfl rfl (fun _=>trivial) (fun _=>Hi hx1) (G' 2 rfl (a1' rfl (AG.c rfl rfl (fun hg=>⟨hg,trivial⟩) (fun hw=>Hi (W1 hw hx2)) (pa' rfl (G' 2 rfl (a1' rfl (a0' rfl (a1' rfl (a2' rfl (pa' rfl (G' 2 rfl ?_)))))))))))))
  exact a1' rfl (a0' rfl (a1' rfl (a2' rfl (a1' rfl (a1' rfl (pa' rfl (a0' rfl (an' (n' (re' (rt' rfl rfl rfl)))))))))))
 refine sk' (S' (t' rfl (ci' rfl hh (fun hh=>?_) (fun hh=>?_))))
 ·refine S' (sg' 10 rfl (G' 2 rfl (AG.qe hC rfl (fun hg=>⟨trivial,trivial⟩) (ei64.lenA _) (G' 3 rfl (a1' rfl (AG.qe hC rfl (fun hg=>⟨⟨hg,trivial⟩,trivial⟩) (ei64.lenA _) (a1' rfl (po' rfl (an' (n' (ci' rfl hh (fun hh=>?_) (fun hh=>?_))))))))))))
  ·cases hh
   exact t' rfl (re' (rt' rfl rfl rfl))
  exact sk' (t' rfl (bk' (fw' (Lw hh) rfl rfl rfl)))
 cases hh
 exact sk' (t' rfl (re' (rt' rfl rfl rfl)))
mutual
def K5 (l:List C0):Option Bool:=
 W7 l 0
 partial_fixpoint
def W7 (l:List C0)(i:Int):Option Bool:=
 if (decide (i < ((l).length:Int)))=true then
  idx l i>>=fun x1=>
  Ig x1>>=fun x2=>
  (if (!(!x2))=true then H3 x1.Place else some default)>>=fun x3=>
  (if (!(bif (!x2) then true else (!x3)))=true then H3 x1.Value else some default)>>=fun x4=>
  (if (!(bif (bif (!x2) then true else (!x3)) then true else (!x4)))=true then K5 x1.Then else some default)>>=fun x5=>
  (if (!(bif (bif (bif (!x2) then true else (!x3)) then true else (!x4)) then true else (!x5)))=true then K5 x1.Else else some default)>>=fun x6=>
  if (bif (bif (bif (bif (!x2) then true else (!x3)) then true else (!x4)) then true else (!x5)) then true else (!x6))=true then
   some false
  else
   Fb l x1 i 0
 else
  some true
 partial_fixpoint
def Fb (l:List C0)(x1:C0)(i1:Int)(k:Int):Option Bool:=
 if (decide (k < ((x1.Args).length:Int)))=true then
  idx x1.Args k>>=fun x7=>
  H3 x7>>=fun x8=>
  if (!x8)=true then
   some false
  else
   Fb l x1 i1 (IntKind.i64.wrap (k+1))
 else
  W7 l (IntKind.i64.wrap (i1+1))
 partial_fixpoint
end
abbrev Uo (l:List C0)(res:Bool):Prop:=O0 C 100 [.d (.sl (C0.rows l))] [] (Ret [] (.d (.bool res)))
abbrev Mw (l:List C0)(i:Int)(res:Bool):Prop:=LM C 57 0 Tryz.f100 [1,0,1,4] [(0,.d (.sl (C0.rows l))),(3,.d (.int .i64 i))] [] (Ret [] (.d (.bool res)))
abbrev Nw (l:List C0)(x1:C0)(i1:Int)(k:Int)(res:Bool):Prop:=LM C 57 0 Tryz.f100 [1,0,1,4,5,1,0,4,1,1,1,4] [(0,.d (.sl (C0.rows l))),(3,.d (.int .i64 i1)),(4,.ref 0 0),(5,.d (.int .i64 k))] [.row (C0.cells x1) 79] (Ret [] (.d (.bool res)))
theorem Ey:(∀ l res,K5 l=some res→Uo l res)∧(∀ l i res,W7 l i=some res→Mw l i res)∧(∀ l x1 i1 k res,Fb l x1 i1 k=some res→Nw l x1 i1 k res):=by
 refine K5.mutual_partial_correctness _ _ _ ?_ ?_ ?_
 ·intro g1 ih1 l res hh
  exact O0.intro hC Tryz.func100 rfl rfl rfl (t' rfl (S' (t' rfl (bk' (fw' (ih1 _ _ _ hh) rfl rfl rfl)))))
 ·intro g0 g2 ih0 ih2 l i res hh
  refine D1.unroll (S' (p' 2 rfl (qe' rfl trivial (C0.lenA _) (e' rfl (ci' rfl hh (fun hh=>?_) (fun hh=>?_))))))
  ·obtain ⟨x1,hx1,hh⟩:=bs' hh
   obtain ⟨x2,hx2,hh⟩:=bs' hh
   obtain ⟨x3,hx3,hh⟩:=bs' hh
   obtain ⟨x4,hx4,hh⟩:=bs' hh
   obtain ⟨x5,hx5,hh⟩:=bs' hh
   obtain ⟨x6,hx6,hh⟩:=bs' hh
   refine sk' (S' (bk' (p' 2 rfl (i' rfl (T0 hx1) (C0.idx hx1) rfl (q' rfl (L0.nf hC rfl (L0.s hC rfl (n' (S' (sg' 27 rfl (a0' rfl (AG.c rfl rfl (fun _=>trivial) (fun _=>B11 hx2) (G' 3 rfl ?_)))))))))))))
   refine a1' rfl (AG.c rfl rfl (fun hg=>⟨hg,trivial⟩) (fun hw=>Yg (W1 hw hx3)) (a1' rfl (po' rfl (G' 2 rfl (a1' rfl (AG.c rfl rfl (fun hg=>⟨hg,trivial⟩) (fun hw=>Yg (W1 hw hx4)) (a1' rfl (po' rfl (G' 2 rfl (a1' rfl (AG.c rfl rfl (fun hg=>⟨hg,trivial⟩) (fun hw=>ih0 _ _ (W1 hw hx5)) (a1' rfl (po' rfl ?_)))))))))))))
   refine G' 2 rfl (a1' rfl (AG.c rfl rfl (fun hg=>⟨hg,trivial⟩) (fun hw=>ih0 _ _ (W1 hw hx6)) (a1' rfl (po' rfl (an' (n' (ci' rfl hh (fun hh=>?_) (fun hh=>?_))))))))
   ·cases hh
    exact t' rfl (re' (rt' rfl rfl rfl))
   exact sk' (t' rfl (bk' (fw' (ih2 _ _ _ _ _ hh) rfl rfl rfl)))
  cases hh
  exact ex' (t' rfl (re' (rt' rfl rfl rfl)))
 ·intro g1 g2 ih1 ih2 l x1 i1 k res hh
  refine D1.unroll (S' (p' 3 rfl (qe' rfl trivial (A0.lenA _) (e' rfl (ci' rfl hh (fun hh=>?_) (fun hh=>?_))))))
  ·obtain ⟨x7,hx7,hh⟩:=bs' hh
   obtain ⟨x8,hx8,hh⟩:=bs' hh
   refine sk' (S' (bk' (p' 3 rfl (i' rfl (T0 hx7) (A0.idx hx7) rfl (q' rfl (c' (Yg hx8) rfl rfl (e' rfl (ci' rfl hh (fun hh=>?_) (fun hh=>?_)))))))))
   ·cases hh
    exact t' rfl (re' (rt' rfl rfl rfl))
   exact sk' (T' rfl (lw' (ih2 _ _ _ _ _ hh) rfl rfl rfl))
  exact ex' (T' rfl (lw' (ih1 _ _ _ hh) rfl rfl rfl))
theorem Zn {l res}(hh:K5 l=some res):Uo l res:=(Ey).1 _ _ hh
mutual
def K6 (l:List F0):Option Bool:=
 X7 l 0
 partial_fixpoint
def X7 (l:List F0)(i:Int):Option Bool:=
 if (decide (i < ((l).length:Int)))=true then
  idx l i>>=fun x1=>
  Gf x1.Init>>=fun x2=>
  if (bif (!x2) then true else (bif (x1.TypeV.Kind == 0) then (bif (decide (x1.Init < 0)) then true else (decide (x1.Init > 1))) else false))=true then
   some false
  else
   M7 x1.TypeV>>=fun x3=>
   (if (!(!x3))=true then H3 x1.Value else some default)>>=fun x4=>
   (if (!(bif (!x3) then true else (!x4)))=true then K6 x1.Params else some default)>>=fun x5=>
   (if (!(bif (bif (!x3) then true else (!x4)) then true else (!x5)))=true then K6 x1.Vars else some default)>>=fun x6=>
   (if (!(bif (bif (bif (!x3) then true else (!x4)) then true else (!x5)) then true else (!x6)))=true then K5 x1.Body else some default)>>=fun x7=>
   if (bif (bif (bif (bif (!x3) then true else (!x4)) then true else (!x5)) then true else (!x6)) then true else (!x7))=true then
    some false
   else
    X7 l (IntKind.i64.wrap (i+1))
 else
  some true
 partial_fixpoint
end
abbrev Vo (l:List F0)(res:Bool):Prop:=O0 C 99 [.d (.sl (F0.rows l))] [] (Ret [] (.d (.bool res)))
abbrev Ow (l:List F0)(i:Int)(res:Bool):Prop:=LM C 63 0 Tryz.f99 [1,0,1,4] [(0,.d (.sl (F0.rows l))),(3,.d (.int .i64 i))] [] (Ret [] (.d (.bool res)))
theorem Fy:(∀ l res,K6 l=some res→Vo l res)∧(∀ l i res,X7 l i=some res→Ow l i res):=by
 refine K6.mutual_partial_correctness _ _ ?_ ?_
 ·intro g1 ih1 l res hh
  exact O0.intro hC Tryz.func99 rfl rfl rfl (t' rfl (S' (t' rfl (bk' (fw' (ih1 _ _ _ hh) rfl rfl rfl)))))
 ·intro g0 g1 ih0 ih1 l i res hh
  refine D1.unroll (S' (p' 2 rfl (qe' rfl trivial (F0.lenA _) (e' rfl (ci' rfl hh (fun hh=>?_) (fun hh=>?_))))))
  ·obtain ⟨x1,hx1,hh⟩:=bs' hh
   obtain ⟨x2,hx2,hh⟩:=bs' hh
   refine sk' (S' (bk' (p' 2 rfl (i' rfl (T0 hx1) (F0.idx hx1) rfl (q' rfl (L0.nf hC rfl (L0.s hC rfl (n' (S' (sg' 20 rfl (G' 2 rfl (AG.c rfl rfl (fun _=>trivial) (fun _=>Hi hx2) (G' 3 rfl ?_)))))))))))))
   refine a1' rfl (a1' rfl (a1' rfl (a1' rfl (a0' rfl (a1' rfl (a1' rfl (a1' rfl (a0' rfl (a1' rfl (a1' rfl (pO' rfl (pA' rfl (po' rfl ?_)))))))))))))
   refine an' (n' (ci' rfl hh (fun hh=>?_) (fun hh=>?_)))
   ·cases hh
    exact t' rfl (re' (rt' rfl rfl rfl))
   obtain ⟨x3,hx3,hh⟩:=bs' hh
   obtain ⟨x4,hx4,hh⟩:=bs' hh
   obtain ⟨x5,hx5,hh⟩:=bs' hh
   obtain ⟨x6,hx6,hh⟩:=bs' hh
   obtain ⟨x7,hx7,hh⟩:=bs' hh
   refine sk' (sg' 28 rfl (G' 2 rfl (AG.c rfl rfl (fun _=>trivial) (fun _=>A11 hx3) (G' 3 rfl (a1' rfl (AG.c rfl rfl (fun hg=>⟨hg,trivial⟩) (fun hw=>Yg (W1 hw hx4)) (a1' rfl (po' rfl (G' 2 rfl (a1' rfl (AG.c rfl rfl (fun hg=>⟨hg,trivial⟩) (fun hw=>ih0 _ _ (W1 hw hx5)) (a1' rfl (po' rfl ?_)))))))))))))
   refine G' 2 rfl (a1' rfl (AG.c rfl rfl (fun hg=>⟨hg,trivial⟩) (fun hw=>ih0 _ _ (W1 hw hx6)) (a1' rfl (po' rfl (G' 2 rfl (a1' rfl (AG.c rfl rfl (fun hg=>⟨hg,trivial⟩) (fun hw=>Zn (W1 hw hx7)) (a1' rfl (po' rfl (an' (n' (ci' rfl hh (fun hh=>?_) (fun hh=>?_)))))))))))))
   ·cases hh
    exact t' rfl (re' (rt' rfl rfl rfl))
   exact sk' (T' rfl (lw' (ih1 _ _ _ hh) rfl rfl rfl))
  cases hh
  exact ex' (t' rfl (re' (rt' rfl rfl rfl)))
theorem Kz {l res}(hh:K6 l=some res):Vo l res:=(Fy).1 _ _ hh
def Uk (s:P0)(form:Bool)(names:Bool)(numbers:Bool):Option Int:=
 if (bif (decide (s.nodes > 1024)) then true else (decide (s.depth > 12)))=true then
  some 4
 else
  if (!form)=true then
   some 1
  else
   if (!names)=true then
    some 7
   else
    if (!numbers)=true then
     some 3
    else
     some 0
theorem E17 {s form names numbers res}(hh:Uk s form names numbers=some res):O0 C 93 [.agg (P0.cells s),.d (.bool form),.d (.bool names),.d (.bool numbers)] [] (Ret [] (.d (.int .i64 res))):=by
 unfold Uk at hh
 refine O0.intro hC Tryz.func93 rfl rfl rfl (s' rfl rfl (L0.n hC rfl (e' rfl (S' (sg' 8 rfl (G' 5 rfl (a1' rfl (a1' rfl (po' rfl (an' (n' (ci' rfl hh (fun hh=>?_) (fun hh=>?_)))))))))))))
 ·cases hh
  exact t' rfl (re' (rt' rfl rfl rfl))
 refine sk' (S' (t' rfl (ci' rfl hh (fun hh=>?_) (fun hh=>?_))))
 ·cases hh
  exact t' rfl (re' (rt' rfl rfl rfl))
 refine sk' (S' (t' rfl (ci' rfl hh (fun hh=>?_) (fun hh=>?_))))
 ·cases hh
  exact t' rfl (re' (rt' rfl rfl rfl))
 refine sk' (S' (t' rfl (ci' rfl hh (fun hh=>?_) (fun hh=>?_))))
 ·cases hh
  exact t' rfl (re' (rt' rfl rfl rfl))
 cases hh
 exact sk' (t' rfl (re' (rt' rfl rfl rfl)))
def Zm (p:Q0):Option Int:=
 Xm p>>=fun x1=>
 M9 p.Decls>>=fun x2=>
 (if x2=true then T7 p.Body else some default)>>=fun x3=>
 I8 p.Decls>>=fun x4=>
 (if x4=true then U6 p.Body else some default)>>=fun x5=>
 K6 p.Decls>>=fun x6=>
 (if x6=true then K5 p.Body else some default)>>=fun x7=>
 Uk x1 (bif x2 then x3 else false) (bif x4 then x5 else false) (bif x6 then x7 else false)>>=fun x8=>
 some x8
theorem I1a {p res}(hh:Zm p=some res):O0 C 45 [.agg (Q0.cells p)] [] (Ret [] (.d (.int .i64 res))):=by
 unfold Zm at hh
 obtain ⟨x1,hx1,hh⟩:=bs' hh
 obtain ⟨x2,hx2,hh⟩:=bs' hh
 obtain ⟨x3,hx3,hh⟩:=bs' hh
 obtain ⟨x4,hx4,hh⟩:=bs' hh
 obtain ⟨x5,hx5,hh⟩:=bs' hh
 obtain ⟨x6,hx6,hh⟩:=bs' hh
 obtain ⟨x7,hx7,hh⟩:=bs' hh
 obtain ⟨x8,hx8,hh⟩:=bs' hh
 cases hh
 refine O0.intro hC Tryz.func45 rfl rfl rfl (s' rfl rfl (L0.n hC rfl (e' rfl (S' (AEx.drawG hC 28 rfl rfl rfl (a0' rfl (AG.c rfl rfl (fun _=>trivial) (fun _=>F1a hx1) (G' 2 rfl (AG.c rfl rfl (fun _=>trivial) (fun _=>J14 hx2) (G' 2 rfl (a1' rfl (AG.c rfl rfl (fun hg=>⟨hg,trivial⟩) (fun hw=>Lr (W1 hw hx3)) (pa' rfl ?_)))))))))))))
 refine G' 2 rfl (AG.c rfl rfl (fun _=>trivial) (fun _=>W12 hx4) (G' 2 rfl (a1' rfl (AG.c rfl rfl (fun hg=>⟨hg,trivial⟩) (fun hw=>Tp (W1 hw hx5)) (pa' rfl (G' 2 rfl (AG.c rfl rfl (fun _=>trivial) (fun _=>Kz hx6) (G' 2 rfl (a1' rfl (AG.c rfl rfl (fun hg=>⟨hg,trivial⟩) (fun hw=>Zn (W1 hw hx7)) (pa' rfl ?_)))))))))))
 exact AG.c rfl rfl (fun _=>trivial) (fun _=>E17 hx8) (a0' rfl (an' (n' (re' (rt' rfl rfl rfl)))))
mutual
def Ie (t:D0):Option (List Str):=
 if (t.Kind == 4)=true then
  if (decide ((0+1) * 17≤140737488355328))=true then
   Jg t [t.Name]
  else none
 else
  Jg t []
 partial_fixpoint
def Jg (t:D0)(out:List Str):Option (List Str):=
 Cd t out 0
 partial_fixpoint
def Cd (t:D0)(out1:List Str)(i:Int):Option (List Str):=
 if (decide (i < ((t.Of).length:Int)))=true then
  idx t.Of i>>=fun x1=>
  Ie x1>>=fun x2=>
  if (decide ((out1.length+x2.length) * 17≤140737488355328))=true then
   Cd t (out1++x2) (IntKind.i64.wrap (i+1))
  else none
 else
  some out1
 partial_fixpoint
end
abbrev Pv (t:D0)(res:List Str):Prop:=O0 C 101 [.agg (D0.cells t)] [] (Ret [] (.d (.sl (estr.rows res))))
abbrev X12 (t:D0)(out:List Str)(res:List Str):Prop:=JM C 30 0 Tryz.f101 [1,1,1] [(1,.ref 0 0),(3,.osl 1 (estr.rows out))] [.row (D0.cells t) 48,.tok 9 1] (Ret [] (.d (.sl (estr.rows res))))
abbrev Y12 (t:D0)(out1:List Str)(i:Int)(res:List Str):Prop:=LM C 30 0 Tryz.f101 [1,1,1,0,1,4] [(1,.ref 0 0),(3,.osl 1 (estr.rows out1)),(4,.d (.int .i64 i))] [.row (D0.cells t) 48,.tok 9 1] (Ret [] (.d (.sl (estr.rows res))))
theorem L14:(∀ t res,Ie t=some res→Pv t res)∧(∀ t out res,Jg t out=some res→X12 t out res)∧(∀ t out1 i res,Cd t out1 i=some res→Y12 t out1 i res):=by
 refine Ie.mutual_partial_correctness _ _ _ ?_ ?_ ?_
 ·intro g1 ih1 t res hh
  refine O0.intro hC Tryz.func101 rfl rfl rfl (s' rfl rfl (L0.n hC rfl (e' rfl (s' rfl rfl (L0.be hC rfl (estr.rows_map []).symm (L0.tokE 5 9 1 rfl (e' rfl (S' (t' rfl (ci' rfl hh (fun hh=>?_) (fun hh=>?_)))))))))))
  ·obtain ⟨c13,hh⟩:=X0 hh
   exact P' 3 rfl (L0.be hC rfl (estr.rows_map [t.Name]).symm (L0.ap hC rfl (rs:=estr.rows [t.Name]) rfl (estr.sz []) (estr.sz [t.Name]) (X4 (estr.len []) (estr.len [t.Name]) c13) (e' rfl (ew' (ih1 _ _ _ hh) rfl rfl rfl))))
  exact sk' (ew' (ih1 _ _ _ hh) rfl rfl rfl)
 ·intro g2 ih2 t out res hh
  exact S' (t' rfl (bk' (fw' (ih2 _ _ _ _ hh) rfl rfl rfl)))
 ·intro g0 g2 ih0 ih2 t out1 i res hh
  refine D1.unroll (S' (p' 3 rfl (qe' rfl trivial (D0.lenA _) (e' rfl (ci' rfl hh (fun hh=>?_) (fun hh=>?_))))))
  ·obtain ⟨x1,hx1,hh⟩:=bs' hh
   obtain ⟨x2,hx2,hh⟩:=bs' hh
   obtain ⟨c14,hh⟩:=X0 hh
   exact sk' (S' (bk' (P' 4 rfl (i' rfl (T0 hx1) (D0.idx hx1) rfl (q' rfl (c' (ih0 _ _ hx2) rfl rfl (L0.ap hC rfl (rs:=estr.rows (out1++x2)) (estr.app out1 x2) (estr.sz out1) (estr.sz x2) (X4 (estr.len out1) (estr.len x2) c14) (e' rfl (T' rfl (lw' (ih2 _ _ _ _ hh) rfl rfl rfl))))))))))
  refine ex' (t' rfl (re' ?_))
  obtain rfl:=oi' hh
  exact ⟨_,.d (.sl (estr.rows out1)),[],rfl,.osl,trivial,rfl,rfl,rfl,rfl⟩
theorem Z15 {t res}(hh:Ie t=some res):Pv t res:=(L14).1 _ _ hh
mutual
def D7 (e:A0):Option (List Str):=
 if (e.Op == 3)=true then
  if (decide ((0+1) * 17≤140737488355328))=true then
   Kg e [e.Name]
  else none
 else
  Kg e []
 partial_fixpoint
def Kg (e:A0)(out:List Str):Option (List Str):=
 Dd e out 0
 partial_fixpoint
def Dd (e:A0)(out1:List Str)(i:Int):Option (List Str):=
 if (decide (i < ((e.Kids).length:Int)))=true then
  idx e.Kids i>>=fun x1=>
  D7 x1>>=fun x2=>
  if (decide ((out1.length+x2.length) * 17≤140737488355328))=true then
   Dd e (out1++x2) (IntKind.i64.wrap (i+1))
  else none
 else
  some out1
 partial_fixpoint
end
abbrev Qv (e:A0)(res:List Str):Prop:=O0 C 102 [.agg (A0.cells e)] [] (Ret [] (.d (.sl (estr.rows res))))
abbrev Z12 (e:A0)(out:List Str)(res:List Str):Prop:=JM C 30 0 Tryz.f102 [1,1,1] [(1,.ref 0 0),(3,.osl 1 (estr.rows out))] [.row (A0.cells e) 40,.tok 9 1] (Ret [] (.d (.sl (estr.rows res))))
abbrev A13 (e:A0)(out1:List Str)(i:Int)(res:List Str):Prop:=LM C 30 0 Tryz.f102 [1,1,1,0,1,4] [(1,.ref 0 0),(3,.osl 1 (estr.rows out1)),(4,.d (.int .i64 i))] [.row (A0.cells e) 40,.tok 9 1] (Ret [] (.d (.sl (estr.rows res))))
theorem M14:(∀ e res,D7 e=some res→Qv e res)∧(∀ e out res,Kg e out=some res→Z12 e out res)∧(∀ e out1 i res,Dd e out1 i=some res→A13 e out1 i res):=by
 refine D7.mutual_partial_correctness _ _ _ ?_ ?_ ?_
 ·intro g1 ih1 e res hh
  refine O0.intro hC Tryz.func102 rfl rfl rfl (s' rfl rfl (L0.n hC rfl (e' rfl (s' rfl rfl (L0.be hC rfl (estr.rows_map []).symm (L0.tokE 5 9 1 rfl (e' rfl (S' (t' rfl (ci' rfl hh (fun hh=>?_) (fun hh=>?_)))))))))))
  ·obtain ⟨c13,hh⟩:=X0 hh
   exact P' 3 rfl (L0.be hC rfl (estr.rows_map [e.Name]).symm (L0.ap hC rfl (rs:=estr.rows [e.Name]) rfl (estr.sz []) (estr.sz [e.Name]) (X4 (estr.len []) (estr.len [e.Name]) c13) (e' rfl (ew' (ih1 _ _ _ hh) rfl rfl rfl))))
  exact sk' (ew' (ih1 _ _ _ hh) rfl rfl rfl)
 ·intro g2 ih2 e out res hh
  exact S' (t' rfl (bk' (fw' (ih2 _ _ _ _ hh) rfl rfl rfl)))
 ·intro g0 g2 ih0 ih2 e out1 i res hh
  refine D1.unroll (S' (p' 3 rfl (qe' rfl trivial (A0.lenA _) (e' rfl (ci' rfl hh (fun hh=>?_) (fun hh=>?_))))))
  ·obtain ⟨x1,hx1,hh⟩:=bs' hh
   obtain ⟨x2,hx2,hh⟩:=bs' hh
   obtain ⟨c14,hh⟩:=X0 hh
   exact sk' (S' (bk' (P' 4 rfl (i' rfl (T0 hx1) (A0.idx hx1) rfl (q' rfl (c' (ih0 _ _ hx2) rfl rfl (L0.ap hC rfl (rs:=estr.rows (out1++x2)) (estr.app out1 x2) (estr.sz out1) (estr.sz x2) (X4 (estr.len out1) (estr.len x2) c14) (e' rfl (T' rfl (lw' (ih2 _ _ _ _ hh) rfl rfl rfl))))))))))
  refine ex' (t' rfl (re' ?_))
  obtain rfl:=oi' hh
  exact ⟨_,.d (.sl (estr.rows out1)),[],rfl,.osl,trivial,rfl,rfl,rfl,rfl⟩
theorem Zi {e res}(hh:D7 e=some res):Qv e res:=(M14).1 _ _ hh
mutual
def B6 (l:List C0):Option (List Str):=
 Gb l [] 0
 partial_fixpoint
def Gb (l:List C0)(out2:List Str)(i:Int):Option (List Str):=
 if (decide (i < ((l).length:Int)))=true then
  idx l i>>=fun x1=>
  Fh x1.Verb>>=fun x2=>
  if x2=true then
   if (decide ((out2.length+1) * 17≤140737488355328))=true then
    Jf l x1 (out2++[x1.Name]) i
   else none
  else
   Jf l x1 out2 i
 else
  some out2
 partial_fixpoint
def Jf (l:List C0)(x1:C0)(out:List Str)(i1:Int):Option (List Str):=
 D7 x1.Place>>=fun x3=>
 if (decide ((out.length+x3.length) * 17≤140737488355328))=true then
  D7 x1.Value>>=fun x4=>
  if (decide (((out++x3).length+x4.length) * 17≤140737488355328))=true then
   Hb l x1 ((out++x3)++x4) i1 0
  else none
 else none
 partial_fixpoint
def Hb (l:List C0)(x1:C0)(out1:List Str)(i2:Int)(k:Int):Option (List Str):=
 if (decide (k < ((x1.Args).length:Int)))=true then
  idx x1.Args k>>=fun x5=>
  D7 x5>>=fun x6=>
  if (decide ((out1.length+x6.length) * 17≤140737488355328))=true then
   Hb l x1 (out1++x6) i2 (IntKind.i64.wrap (k+1))
  else none
 else
  B6 x1.Then>>=fun x7=>
  if (decide ((out1.length+x7.length) * 17≤140737488355328))=true then
   B6 x1.Else>>=fun x8=>
   if (decide (((out1++x7).length+x8.length) * 17≤140737488355328))=true then
    Gb l ((out1++x7)++x8) (IntKind.i64.wrap (i2+1))
   else none
  else none
 partial_fixpoint
end
abbrev Bt (l:List C0)(res:List Str):Prop:=O0 C 47 [.d (.sl (C0.rows l))] [] (Ret [] (.d (.sl (estr.rows res))))
abbrev C11 (l:List C0)(out2:List Str)(i:Int)(res:List Str):Prop:=LM C 62 0 Tryz.f47 [1,1,0,1,4] [(0,.d (.sl (C0.rows l))),(3,.osl 0 (estr.rows out2)),(4,.d (.int .i64 i))] [.tok 9 1] (Ret [] (.d (.sl (estr.rows res))))
abbrev D11 (l:List C0)(x1:C0)(out:List Str)(i1:Int)(res:List Str):Prop:=JM C 62 0 Tryz.f47 [1,1,0,1,4,5,1,0,4,1,1] [(0,.d (.sl (C0.rows l))),(3,.osl 0 (estr.rows out)),(4,.d (.int .i64 i1)),(5,.ref 1 0)] [.tok 9 1,.row (C0.cells x1) 79] (Ret [] (.d (.sl (estr.rows res))))
abbrev E11 (l:List C0)(x1:C0)(out1:List Str)(i2:Int)(k:Int)(res:List Str):Prop:=LM C 62 0 Tryz.f47 [1,1,0,1,4,5,1,0,4,1,1,1,1,0,1,4] [(0,.d (.sl (C0.rows l))),(3,.osl 0 (estr.rows out1)),(4,.d (.int .i64 i2)),(5,.ref 1 0),(6,.d (.int .i64 k))] [.tok 9 1,.row (C0.cells x1) 79] (Ret [] (.d (.sl (estr.rows res))))
theorem B13:(∀ l res,B6 l=some res→Bt l res)∧(∀ l out2 i res,Gb l out2 i=some res→C11 l out2 i res)∧(∀ l x1 out i1 res,Jf l x1 out i1=some res→D11 l x1 out i1 res)∧(∀ l x1 out1 i2 k res,Hb l x1 out1 i2 k=some res→E11 l x1 out1 i2 k res):=by
 refine B6.mutual_partial_correctness _ _ _ _ ?_ ?_ ?_ ?_
 ·intro g1 ih1 l res hh
  exact O0.intro hC Tryz.func47 rfl rfl rfl (t' rfl (s' rfl rfl (L0.be hC rfl (estr.rows_map []).symm (L0.tokE 7 9 1 rfl (e' rfl (S' (t' rfl (bk' (fw' (ih1 _ _ _ _ hh) rfl rfl rfl)))))))))
 ·intro g2 ih2 l out2 i res hh
  refine D1.unroll (S' (p' 2 rfl (qe' rfl trivial (C0.lenA _) (e' rfl (ci' rfl hh (fun hh=>?_) (fun hh=>?_))))))
  ·obtain ⟨x1,hx1,hh⟩:=bs' hh
   obtain ⟨x2,hx2,hh⟩:=bs' hh
   refine sk' (S' (bk' (p' 2 rfl (i' rfl (T0 hx1) (C0.idx hx1) rfl (q' rfl (L0.nf hC rfl (L0.s hC rfl (n' (S' (p' 2 rfl (c' (Lm hx2) rfl rfl (n' (ci' rfl hh (fun hh=>?_) (fun hh=>?_))))))))))))))
   ·obtain ⟨c42,hh⟩:=X0 hh
    exact P' 3 rfl (L0.be hC rfl (estr.rows_map [x1.Name]).symm (L0.ap hC rfl (rs:=estr.rows (out2++[x1.Name])) (estr.app out2 [x1.Name]) (estr.sz out2) (estr.sz [x1.Name]) (X4 (estr.len out2) (estr.len [x1.Name]) c42) (e' rfl (ew' (ih2 _ _ _ _ _ hh) rfl rfl rfl))))
   exact sk' (ew' (ih2 _ _ _ _ _ hh) rfl rfl rfl)
  refine ex' (t' rfl (re' ?_))
  obtain rfl:=oi' hh
  exact ⟨_,.d (.sl (estr.rows out2)),[],rfl,.osl,trivial,rfl,rfl,rfl,rfl⟩
 ·intro g3 ih3 l x1 out i1 res hh
  obtain ⟨x3,hx3,hh⟩:=bs' hh
  obtain ⟨c43,hh⟩:=X0 hh
  obtain ⟨x4,hx4,hh⟩:=bs' hh
  obtain ⟨c44,hh⟩:=X0 hh
  refine p' 3 rfl (c' (Zi hx3) rfl rfl (L0.ap hC rfl (rs:=estr.rows (out++x3)) (estr.app out x3) (estr.sz out) (estr.sz x3) (X4 (estr.len out) (estr.len x3) c43) (e' rfl (p' 3 rfl (c' (Zi hx4) rfl rfl (L0.ap hC rfl (rs:=estr.rows ((out++x3)++x4)) (estr.app (out++x3) x4) (estr.sz (out++x3)) (estr.sz x4) (X4 (estr.len (out++x3)) (estr.len x4) c44) (e' rfl (S' ?_))))))))
  exact t' rfl (bk' (fw' (ih3 _ _ _ _ _ _ hh) rfl rfl rfl))
 ·intro g0 g1 g3 ih0 ih1 ih3 l x1 out1 i2 k res hh
  refine D1.unroll (S' (p' 3 rfl (qe' rfl trivial (A0.lenA _) (e' rfl (ci' rfl hh (fun hh=>?_) (fun hh=>?_))))))
  ·obtain ⟨x5,hx5,hh⟩:=bs' hh
   obtain ⟨x6,hx6,hh⟩:=bs' hh
   obtain ⟨c45,hh⟩:=X0 hh
   exact sk' (S' (bk' (P' 4 rfl (i' rfl (T0 hx5) (A0.idx hx5) rfl (q' rfl (c' (Zi hx6) rfl rfl (L0.ap hC rfl (rs:=estr.rows (out1++x6)) (estr.app out1 x6) (estr.sz out1) (estr.sz x6) (X4 (estr.len out1) (estr.len x6) c45) (e' rfl (T' rfl (lw' (ih3 _ _ _ _ _ _ hh) rfl rfl rfl))))))))))
  obtain ⟨x7,hx7,hh⟩:=bs' hh
  obtain ⟨c46,hh⟩:=X0 hh
  obtain ⟨x8,hx8,hh⟩:=bs' hh
  obtain ⟨c47,hh⟩:=X0 hh
  exact ex' (p' 3 rfl (c' (ih0 _ _ hx7) rfl rfl (L0.ap hC rfl (rs:=estr.rows (out1++x7)) (estr.app out1 x7) (estr.sz out1) (estr.sz x7) (X4 (estr.len out1) (estr.len x7) c46) (e' rfl (P' 3 rfl (c' (ih0 _ _ hx8) rfl rfl (L0.ap hC rfl (rs:=estr.rows ((out1++x7)++x8)) (estr.app (out1++x7) x8) (estr.sz (out1++x7)) (estr.sz x8) (X4 (estr.len (out1++x7)) (estr.len x8) c47) (e' rfl (T' rfl (lw' (ih1 _ _ _ _ hh) rfl rfl rfl))))))))))
theorem Rr {l res}(hh:B6 l=some res):Bt l res:=(B13).1 _ _ hh
mutual
def O9 (l:List F0):Option (List Str):=
 Ib l [] 0
 partial_fixpoint
def Ib (l:List F0)(out:List Str)(i:Int):Option (List Str):=
 if (decide (i < ((l).length:Int)))=true then
  idx l i>>=fun x1=>
  if (decide ((out.length+1) * 17≤140737488355328))=true then
   Ie x1.TypeV>>=fun x2=>
   if (decide (((out++[x1.Name]).length+x2.length) * 17≤140737488355328))=true then
    D7 x1.Value>>=fun x3=>
    if (decide ((((out++[x1.Name])++x2).length+x3.length) * 17≤140737488355328))=true then
     O9 x1.Params>>=fun x4=>
     if (decide (((((out++[x1.Name])++x2)++x3).length+x4.length) * 17≤140737488355328))=true then
      O9 x1.Vars>>=fun x5=>
      if (decide ((((((out++[x1.Name])++x2)++x3)++x4).length+x5.length) * 17≤140737488355328))=true then
       B6 x1.Body>>=fun x6=>
       if (decide (((((((out++[x1.Name])++x2)++x3)++x4)++x5).length+x6.length) * 17≤140737488355328))=true then
        Ib l ((((((out++[x1.Name])++x2)++x3)++x4)++x5)++x6) (IntKind.i64.wrap (i+1))
       else none
      else none
     else none
    else none
   else none
  else none
 else
  some out
 partial_fixpoint
end
abbrev Ct (l:List F0)(res:List Str):Prop:=O0 C 46 [.d (.sl (F0.rows l))] [] (Ret [.tok 9 1] (.osl 0 (estr.rows res)))
abbrev F11 (l:List F0)(out:List Str)(i:Int)(res:List Str):Prop:=LM C 48 0 Tryz.f46 [1,1,0,1,4] [(0,.d (.sl (F0.rows l))),(3,.osl 0 (estr.rows out)),(4,.d (.int .i64 i))] [.tok 9 1] (Ret [.tok 9 1] (.osl 0 (estr.rows res)))
theorem C13:(∀ l res,O9 l=some res→Ct l res)∧(∀ l out i res,Ib l out i=some res→F11 l out i res):=by
 refine O9.mutual_partial_correctness _ _ ?_ ?_
 ·intro g1 ih1 l res hh
  exact O0.intro hC Tryz.func46 rfl rfl rfl (t' rfl (s' rfl rfl (L0.be hC rfl (estr.rows_map []).symm (L0.tokE 6 9 1 rfl (e' rfl (S' (t' rfl (bk' (fw' (ih1 _ _ _ _ hh) rfl rfl rfl)))))))))
 ·intro g0 g1 ih0 ih1 l out i res hh
  refine D1.unroll (S' (p' 2 rfl (qe' rfl trivial (F0.lenA _) (e' rfl (ci' rfl hh (fun hh=>?_) (fun hh=>?_))))))
  ·obtain ⟨x1,hx1,hh⟩:=bs' hh
   obtain ⟨c34,hh⟩:=X0 hh
   obtain ⟨x2,hx2,hh⟩:=bs' hh
   obtain ⟨c35,hh⟩:=X0 hh
   obtain ⟨x3,hx3,hh⟩:=bs' hh
   obtain ⟨c36,hh⟩:=X0 hh
   obtain ⟨x4,hx4,hh⟩:=bs' hh
   obtain ⟨c37,hh⟩:=X0 hh
   obtain ⟨x5,hx5,hh⟩:=bs' hh
   obtain ⟨c38,hh⟩:=X0 hh
   obtain ⟨x6,hx6,hh⟩:=bs' hh
   obtain ⟨c39,hh⟩:=X0 hh
   refine sk' (S' (bk' (p' 2 rfl (i' rfl (T0 hx1) (F0.idx hx1) rfl (q' rfl (L0.nf hC rfl (L0.s hC rfl (n' (p' 3 rfl (L0.be hC rfl (estr.rows_map [x1.Name]).symm (L0.ap hC rfl (rs:=estr.rows (out++[x1.Name])) (estr.app out [x1.Name]) (estr.sz out) (estr.sz [x1.Name]) (X4 (estr.len out) (estr.len [x1.Name]) c34) (e' rfl (p' 3 rfl ?_)))))))))))))
   refine c' (Z15 hx2) rfl rfl (L0.ap hC rfl (rs:=estr.rows ((out++[x1.Name])++x2)) (estr.app (out++[x1.Name]) x2) (estr.sz (out++[x1.Name])) (estr.sz x2) (X4 (estr.len (out++[x1.Name])) (estr.len x2) c35) (e' rfl (p' 3 rfl (c' (Zi hx3) rfl rfl ?_))))
   refine L0.ap hC rfl (rs:=estr.rows (((out++[x1.Name])++x2)++x3)) (estr.app ((out++[x1.Name])++x2) x3) (estr.sz ((out++[x1.Name])++x2)) (estr.sz x3) (X4 (estr.len ((out++[x1.Name])++x2)) (estr.len x3) c36) (e' rfl (p' 3 rfl (g' [] (ih0 _ _ hx4) rfl rfl rfl rfl rfl rfl ?_)))
   refine L0.ap hC rfl (rs:=estr.rows ((((out++[x1.Name])++x2)++x3)++x4)) (estr.app (((out++[x1.Name])++x2)++x3) x4) (estr.sz (((out++[x1.Name])++x2)++x3)) (estr.sz x4) (X4 (estr.len (((out++[x1.Name])++x2)++x3)) (estr.len x4) c37) (e' rfl (p' 3 rfl (g' [] (ih0 _ _ hx5) rfl rfl rfl rfl rfl rfl ?_)))
   refine L0.ap hC rfl (rs:=estr.rows (((((out++[x1.Name])++x2)++x3)++x4)++x5)) (estr.app ((((out++[x1.Name])++x2)++x3)++x4) x5) (estr.sz ((((out++[x1.Name])++x2)++x3)++x4)) (estr.sz x5) (X4 (estr.len ((((out++[x1.Name])++x2)++x3)++x4)) (estr.len x5) c38) (e' rfl (P' 3 rfl (c' (Rr hx6) rfl rfl ?_)))
   exact L0.ap hC rfl (rs:=estr.rows ((((((out++[x1.Name])++x2)++x3)++x4)++x5)++x6)) (estr.app (((((out++[x1.Name])++x2)++x3)++x4)++x5) x6) (estr.sz (((((out++[x1.Name])++x2)++x3)++x4)++x5)) (estr.sz x6) (X4 (estr.len (((((out++[x1.Name])++x2)++x3)++x4)++x5)) (estr.len x6) c39) (e' rfl (T' rfl (lw' (ih1 _ _ _ _ hh) rfl rfl rfl)))
  cases hh
  exact ex' (t' rfl (re' (rt' rfl rfl rfl)))
theorem N14 {l res}(hh:O9 l=some res):Ct l res:=(C13).1 _ _ hh
mutual
def U8 (left:List Str)(out:List Str):Option (List Str×Int):=
 if (decide (((left).length:Int) > 0))=true then
  idx left 0>>=fun x4=>
  Je left out x4 0
 else
  some (out,0)
 partial_fixpoint
def Je (left1:List Str)(out1:List Str)(least:Str)(i:Int):Option (List Str×Int):=
 if (decide (i < ((left1).length:Int)))=true then
  idx left1 i>>=fun x5=>
  if (Op.bytesLess x5 least)=true then
   idx left1 i>>=fun x6=>
   Je left1 out1 x6 (IntKind.i64.wrap (i+1))
  else
   Je left1 out1 least (IntKind.i64.wrap (i+1))
 else
  if (decide ((out1.length+1) * 17≤140737488355328))=true then
   Jb left1 (out1++[least]) least [] 0
  else none
 partial_fixpoint
def Jb (left2:List Str)(out2:List Str)(least:Str)(rest:List Str)(i1:Int):Option (List Str×Int):=
 if (decide (i1 < ((left2).length:Int)))=true then
  idx left2 i1>>=fun x7=>
  if (!(x7 == least))=true then
   idx left2 i1>>=fun x8=>
   if (decide ((rest.length+1) * 17≤140737488355328))=true then
    Jb left2 out2 least (rest++[x8]) (IntKind.i64.wrap (i1+1))
   else none
  else
   Jb left2 out2 least rest (IntKind.i64.wrap (i1+1))
 else
  U8 rest out2
 partial_fixpoint
end
abbrev Rv (left:List Str)(out:List Str)(res:List Str×Int):Prop:=LM C 72 0 Tryz.f15 [1,1,1,1,1,0,4] [(5,.osl 1 (estr.rows left)),(6,.osl 2 (estr.rows out))] [.dead,.tok 9 1,.tok 9 1] (Ret [] (.tup [.d (.sl (estr.rows res.1)),.d (.int .i64 res.2)]))
abbrev F17 (left1:List Str)(out1:List Str)(least:Str)(i:Int)(res:List Str×Int):Prop:=LM C 72 0 Tryz.f15 [1,1,1,1,1,0,4,5,1,4,1,0,1,4] [(5,.osl 1 (estr.rows left1)),(6,.osl 2 (estr.rows out1)),(7,.d (.str least)),(8,.d (.int .i64 i))] [.dead,.tok 9 1,.tok 9 1] (Ret [] (.tup [.d (.sl (estr.rows res.1)),.d (.int .i64 res.2)]))
abbrev G17 (left2:List Str)(out2:List Str)(least:Str)(rest:List Str)(i1:Int)(res:List Str×Int):Prop:=LM C 72 0 Tryz.f15 [1,1,1,1,1,0,4,5,1,4,1,1,1,1,0,1,4] [(5,.osl 1 (estr.rows left2)),(6,.osl 2 (estr.rows out2)),(7,.d (.str least)),(9,.osl 3 (estr.rows rest)),(10,.d (.int .i64 i1))] [.dead,.tok 9 1,.tok 9 1,.tok 9 1] (Ret [] (.tup [.d (.sl (estr.rows res.1)),.d (.int .i64 res.2)]))
theorem O14:(∀ left out res,U8 left out=some res→Rv left out res)∧(∀ left1 out1 least i res,Je left1 out1 least i=some res→F17 left1 out1 least i res)∧(∀ left2 out2 least rest i1 res,Jb left2 out2 least rest i1=some res→G17 left2 out2 least rest i1 res):=by
 refine U8.mutual_partial_correctness _ _ _ ?_ ?_ ?_
 ·intro g1 ih1 left out res hh
  refine D1.unroll (S' (p' 1 rfl (qe' rfl trivial (estr.lenA _) (e' rfl (ci' rfl hh (fun hh=>?_) (fun hh=>?_))))))
  ·obtain ⟨x4,hx4,hh⟩:=bs' hh
   refine sk' (bk' (p' 1 rfl (i' rfl (T0 hx4) (estr.idx hx4) rfl (e' rfl (S' (t' rfl (bk' ?_)))))))
   refine AEx.ofLoop ?_
   refine D1.wk ?_ (ih1 _ _ _ _ _ hh)
   exact ⟨⟨⟨.rfl,rfl⟩,⟨.rfl,rfl⟩,⟨.rfl,rfl⟩,⟨.rfl,rfl⟩,trivial⟩,⟨trivial,rfl,rfl,trivial⟩,rfl⟩
  refine ex' (t' rfl (re' ?_))
  obtain rfl:=oi' hh
  exact ⟨_,.tup [.d (.sl (estr.rows out)),.d (.int .i64 0)],[],rfl,(.tupL ⟨.osl,.rfl,trivial⟩),trivial,rfl,rfl,rfl,rfl⟩
 ·intro g1 g2 ih1 ih2 left1 out1 least i res hh
  refine D1.unroll (S' (p' 2 rfl (qe' rfl trivial (estr.lenA _) (e' rfl (ci' rfl hh (fun hh=>?_) (fun hh=>?_))))))
  ·obtain ⟨x5,hx5,hh⟩:=bs' hh
   refine sk' (S' (bk' (p' 2 rfl (i' rfl (T0 hx5) (estr.idx hx5) rfl (e' rfl (ci' rfl hh (fun hh=>?_) (fun hh=>?_)))))))
   ·obtain ⟨x6,hx6,hh⟩:=bs' hh
    refine P' 2 rfl (i' rfl (T0 hx6) (estr.idx hx6) rfl (e' rfl (T' rfl ?_)))
    refine D1.wk ?_ (ih1 _ _ _ _ _ hh)
    exact ⟨⟨⟨.rfl,rfl⟩,⟨.rfl,rfl⟩,⟨.rfl,rfl⟩,⟨.rfl,rfl⟩,trivial⟩,⟨trivial,rfl,rfl,trivial⟩,rfl⟩
   refine sk' (T' rfl ?_)
   refine D1.wk ?_ (ih1 _ _ _ _ _ hh)
   exact ⟨⟨⟨.rfl,rfl⟩,⟨.rfl,rfl⟩,⟨.rfl,rfl⟩,⟨.rfl,rfl⟩,trivial⟩,⟨trivial,rfl,rfl,trivial⟩,rfl⟩
  obtain ⟨c29,hh⟩:=X0 hh
  refine ex' (p' 2 rfl (L0.be hC rfl (estr.rows_map [least]).symm (L0.ap hC rfl (rs:=estr.rows (out1++[least])) (estr.app out1 [least]) (estr.sz out1) (estr.sz [least]) (X4 (estr.len out1) (estr.len [least]) c29) (e' rfl (s' rfl rfl (L0.be hC rfl (estr.rows_map []).symm (L0.tokE 50 9 1 rfl (e' rfl (S' (t' rfl (bk' ?_)))))))))))
  refine AEx.ofLoop ?_
  refine D1.wk ?_ (ih2 _ _ _ _ _ _ hh)
  exact ⟨⟨⟨.rfl,rfl⟩,⟨.rfl,rfl⟩,⟨.rfl,rfl⟩,⟨.rfl,rfl⟩,⟨.rfl,rfl⟩,trivial⟩,⟨trivial,rfl,rfl,rfl,trivial⟩,rfl⟩
 ·intro g0 g2 ih0 ih2 left2 out2 least rest i1 res hh
  refine D1.unroll (S' (p' 2 rfl (qe' rfl trivial (estr.lenA _) (e' rfl (ci' rfl hh (fun hh=>?_) (fun hh=>?_))))))
  ·obtain ⟨x7,hx7,hh⟩:=bs' hh
   refine sk' (S' (bk' (p' 2 rfl (i' rfl (T0 hx7) (estr.idx hx7) rfl (e' rfl (ci' rfl hh (fun hh=>?_) (fun hh=>?_)))))))
   ·obtain ⟨x8,hx8,hh⟩:=bs' hh
    obtain ⟨c30,hh⟩:=X0 hh
    refine P' 3 rfl (i' rfl (T0 hx8) (estr.idx hx8) rfl (q' rfl (L0.be hC rfl (estr.rows_map [x8]).symm (L0.ap hC rfl (rs:=estr.rows (rest++[x8])) (estr.app rest [x8]) (estr.sz rest) (estr.sz [x8]) (X4 (estr.len rest) (estr.len [x8]) c30) (e' rfl (T' rfl ?_))))))
    refine D1.wk ?_ (ih2 _ _ _ _ _ _ hh)
    exact ⟨⟨⟨.rfl,rfl⟩,⟨.rfl,rfl⟩,⟨.rfl,rfl⟩,⟨.rfl,rfl⟩,⟨.rfl,rfl⟩,trivial⟩,⟨trivial,rfl,rfl,rfl,trivial⟩,rfl⟩
   refine sk' (T' rfl ?_)
   refine D1.wk ?_ (ih2 _ _ _ _ _ _ hh)
   exact ⟨⟨⟨.rfl,rfl⟩,⟨.rfl,rfl⟩,⟨.rfl,rfl⟩,⟨.rfl,rfl⟩,⟨.rfl,rfl⟩,trivial⟩,⟨trivial,rfl,rfl,rfl,trivial⟩,rfl⟩
  refine ex' (T' rfl ?_)
  refine D1.rj (L:=[(5,.osl 1 (estr.rows rest)),(6,.osl 2 (estr.rows out2))]) (H2:=[.dead,.tok 9 1,.tok 9 1]) [0,3,2] ?_ rfl rfl rfl rfl
  refine D1.wk ?_ (ih0 _ _ _ hh)
  exact ⟨⟨⟨.rfl,rfl⟩,⟨.rfl,rfl⟩,trivial⟩,⟨trivial,rfl,rfl,trivial⟩,rfl⟩
theorem A16 {left out res}(hh:U8 left out=some res):Rv left out res:=(O14).1 _ _ _ hh
end Go.Proofs.YtbmlpamppbcdeaaGreatDoor

set_option maxRecDepth 100000
set_option maxHeartbeats 4000000
set_option synthInstance.maxSize 20000
set_option linter.unusedVariables false
namespace Go.Proofs.YtbmlpamppbcdeaaGreatDoor
open Go.Am
def An (p:Q0):Option (List Str×Int):=
 Zm p>>=fun x1=>
 if (x1 != 0)=true then
  some ([],x1)
 else
  O9 p.Decls>>=fun x2=>
  B6 p.Body>>=fun x3=>
  if (decide ((x2.length+x3.length) * 17≤140737488355328))=true then
   U8 (x2++x3) []
  else none
theorem J1a {p res}(hh:An p=some res):O0 C 15 [.agg (Q0.cells p)] [] (Ret [] (.tup [.d (.sl (estr.rows res.1)),.d (.int .i64 res.2)])):=by
 unfold An at hh
 obtain ⟨x1,hx1,hh⟩:=bs' hh
 refine O0.intro hC Tryz.func15 rfl rfl rfl (s' rfl rfl (L0.n hC rfl (e' rfl (p' 1 rfl (c' (I1a hx1) rfl rfl (e' rfl (S' (t' rfl (ci' rfl hh (fun hh=>?_) (fun hh=>?_))))))))))
 ·refine t' rfl (re' ?_)
  obtain rfl:=oi' hh
  exact ⟨_,.tup [.d (.sl (estr.rows [])),.d (.int .i64 x1)],[],rfl,(.tupL ⟨.full,.rfl,trivial⟩),trivial,rfl,rfl,rfl,rfl⟩
 obtain ⟨x2,hx2,hh⟩:=bs' hh
 obtain ⟨x3,hx3,hh⟩:=bs' hh
 obtain ⟨c28,hh⟩:=X0 hh
 refine sk' (S' (AEx.drawL hC 5 [2] [] [[.row (Q0.cells p) 25],[.row (Q0.cells p) 25,.tok 9 1]] rfl rfl rfl rfl rfl rfl rfl rfl rfl rfl (AS.q hC rfl rfl rfl rfl (AS.q hC rfl rfl rfl rfl (AS.g [] (N14 hx2) rfl rfl rfl rfl rfl rfl rfl rfl rfl rfl rfl rfl (AS.q hC rfl rfl rfl rfl (AS.q hC rfl rfl rfl rfl (AS.nil (c' (Rr hx3) rfl rfl ?_)))))))))
 refine L0.ap hC rfl (rs:=estr.rows (x2++x3)) (estr.app x2 x3) (estr.sz x2) (estr.sz x3) (X4 (estr.len x2) (estr.len x3) c28) (e' rfl (s' rfl rfl (L0.be hC rfl (estr.rows_map []).symm (L0.tokE 23 9 1 rfl (e' rfl (S' (bk' ?_)))))))
 refine AEx.ofLoop ?_
 refine D1.wk ?_ (A16 hh)
 exact ⟨⟨⟨.rfl,rfl⟩,⟨.rfl,rfl⟩,trivial⟩,⟨trivial,rfl,rfl,trivial⟩,rfl⟩
def L5 (x3:List Str×Int)(x4:List Str×Int)(v35:Int):Option Bool:=
 if (decide (v35 < ((x3.1).length:Int)))=true then
  idx x3.1 v35>>=fun x5=>
  idx x4.1 v35>>=fun x6=>
  if (!(x5 == x6))=true then
   some false
  else
   L5 x3 x4 (IntKind.i64.wrap (v35+1))
 else
  some true
 partial_fixpoint
abbrev Bn (x3:List Str×Int)(x4:List Str×Int)(v35:Int)(res:Bool):Prop:=LM C 48 0 Tryz.f3 [1,1,1,1,1,1,0,1,4] [(3,.d (.sl (estr.rows x3.1))),(5,.d (.sl (estr.rows x4.1))),(34,.d (.int .i64 ((x3.1).length:Int))),(35,.d (.int .i64 v35))] [] (Ret [] (.d (.bool res)))
theorem Sv (x3:List Str×Int)(x4:List Str×Int):(∀ v35 res,L5 x3 x4 v35=some res→Bn x3 x4 v35 res):=by
 refine L5.partial_correctness x3 x4 _ ?_
 ·intro g0 ih0 v35 res hh
  refine D1.unroll (t' rfl (S' (ci' rfl hh (fun hh=>?_) (fun hh=>?_))))
  ·obtain ⟨x5,hx5,hh⟩:=bs' hh
   obtain ⟨x6,hx6,hh⟩:=bs' hh
   refine sk' (S' (bk' (t' rfl (S' (AEx.draw hC 9 rfl rfl rfl (O' 2 rfl (AQ.i hC rfl (T0 hx5) (estr.idx hx5) rfl (O' 3 rfl (AQ.i hC rfl (T0 hx6) (estr.idx hx6) rfl (E' rfl (n' (ci' rfl hh (fun hh=>?_) (fun hh=>?_)))))))))))))
   ·cases hh
    exact t' rfl (re' (rt' rfl rfl rfl))
   exact sk' (T' rfl (lw' (ih0 _ _ hh) rfl rfl rfl))
  cases hh
  exact ex' (t' rfl (re' (rt' rfl rfl rfl)))
theorem Pw {x3 x4 v35 res}(hh:L5 x3 x4 v35=some res):Bn x3 x4 v35 res:=(Sv x3 x4) _ _ hh
def Aj (p:Q0):Option Bool:=
 Ni>>=fun x1=>
 if (!x1)=true then
  some false
 else
  Kr p 400>>=fun x2=>
  if (!x2)=true then
   some true
  else
   Qo p>>=fun x3=>
   An p>>=fun x4=>
   if (bif (x3.2 != x4.2) then true else (((x3.1).length:Int) != ((x4.1).length:Int)))=true then
    some false
   else
    L5 x3 x4 0
theorem G11 {p res}(hh:Aj p=some res):O0 C 3 [.agg (Q0.cells p)] [] (Ret [] (.d (.bool res))):=by
 unfold Aj at hh
 obtain ⟨x1,hx1,hh⟩:=bs' hh
 refine O0.intro hC Tryz.func3 rfl rfl rfl (s' rfl rfl (L0.n hC rfl (e' rfl (S' (s' rfl rfl (c' (E1a hx1) rfl rfl (e' rfl (ci' rfl hh (fun hh=>?_) (fun hh=>?_)))))))))
 ·cases hh
  exact t' rfl (re' (rt' rfl rfl rfl))
 obtain ⟨x2,hx2,hh⟩:=bs' hh
 refine sk' (S' (p' 1 rfl (c' (S1d hx2) rfl rfl (e' rfl (ci' rfl hh (fun hh=>?_) (fun hh=>?_))))))
 ·cases hh
  exact t' rfl (re' (rt' rfl rfl rfl))
 obtain ⟨x3,hx3,hh⟩:=bs' hh
 obtain ⟨x4,hx4,hh⟩:=bs' hh
 refine sk' (p' 1 rfl (c' (Y18 hx3) rfl rfl (e' rfl (p' 1 rfl (c' (J1a hx4) rfl rfl (e' rfl (S' (sg' 10 rfl (G' 5 rfl (AG.qe hC rfl (fun hg=>⟨⟨hg,trivial⟩,trivial⟩) (estr.lenA _) (a0' rfl (AG.qe hC rfl (fun hg=>⟨⟨hg,trivial⟩,trivial⟩) (estr.lenA _) (a2' rfl ?_)))))))))))))
 refine po' rfl (an' (n' (ci' rfl hh (fun hh=>?_) (fun hh=>?_))))
 ·cases hh
  exact t' rfl (re' (rt' rfl rfl rfl))
 exact sk' (S' (p' 1 rfl (qe' rfl trivial (estr.lenA _) (e' rfl (bk' (fw' (Pw hh) rfl rfl rfl))))))
end Go.Proofs.YtbmlpamppbcdeaaGreatDoor

set_option maxRecDepth 100000
set_option maxHeartbeats 4000000
set_option synthInstance.maxSize 20000
set_option linter.unusedVariables false
namespace Go.Proofs.YtbmlpamppbcdeaaGreatDoor
open Go.Am
def Cn (fu:Nat)(n:Int):Option A0:=
 some (A0.mk 0 n [] [])
theorem U1d (fu:Nat)(n:Int):Le (Cn fu n) (Hl n):=by
 unfold Cn Hl
 repeat (first | exact Le.rfl | exact R0 _ | refine Le.bind ?_ (fun _=>?_) | refine Le.ite ?_ ?_)
def Wb (fu:Nat)(o:Int)(kids:List A0):Option A0:=
 some (A0.mk o 0 [] kids)
theorem B1c (fu:Nat)(o:Int)(kids:List A0):Le (Wb fu o kids) (Sb o kids):=by
 unfold Wb Sb
 repeat (first | exact Le.rfl | exact R0 _ | refine Le.bind ?_ (fun _=>?_) | refine Le.ite ?_ ?_)
def Aa (fu:Nat)(s:Str):Option A0:=
 some (A0.mk 3 0 s [])
theorem C1c (fu:Nat)(s:Str):Le (Aa fu s) (Fa s):=by
 unfold Aa Fa
 repeat (first | exact Le.rfl | exact R0 _ | refine Le.bind ?_ (fun _=>?_) | refine Le.ite ?_ ?_)
def Xb (fu:Nat)(d:Int)(syntaxReport:J0):Option J0:=
 some (J0.mk syntaxReport.nodes (max syntaxReport.depth d) syntaxReport.badForm syntaxReport.badName syntaxReport.badNumber)
theorem T1 (fu:Nat)(d:Int)(syntaxReport:J0):Le (Xb fu d syntaxReport) (B5 d syntaxReport):=by
 unfold Xb B5
 repeat (first | exact Le.rfl | exact R0 _ | refine Le.bind ?_ (fun _=>?_) | refine Le.ite ?_ ?_)
def Lg (fu:Nat)(op:Int)(v9:Bool):Option Int:=
 if v9=true then
  some 1
 else
  if (op == 5)=true then
   some 2
  else
   if (op == 23)=true then
    some 3
   else
    if (bif (decide (op≥8)) then (decide (op≤22)) else false)=true then
     some 2
    else
     some (-1)
theorem P14 (fu:Nat)(op:Int)(v9:Bool):Le (Lg fu op v9) (D9 op v9):=by
 unfold Lg D9
 repeat (first | exact Le.rfl | exact R0 _ | refine Le.bind ?_ (fun _=>?_) | refine Le.ite ?_ ?_)
def Ed (fu:Nat)(op:Int)(v4:Bool):Option Int:=
 if v4=true then
  some 0
 else
  if (op == 4)=true then
   Lg fu op (op == 4)
  else
   if (op == 6)=true then
    Lg fu op (op == 6)
   else
    Lg fu op (op == 7)
theorem Q14 (fu:Nat)(op:Int)(v4:Bool):Le (Ed fu op v4) (R7 op v4):=by
 unfold Ed R7
 repeat (first | exact Le.rfl | exact P14 fu _ _ | exact R0 _ | refine Le.bind ?_ (fun _=>?_) | refine Le.ite ?_ ?_)
def Iq (fu:Nat)(op:Int):Option Int:=
 if (op == 0)=true then
  Ed fu op (op == 0)
 else
  if (op == 1)=true then
   Ed fu op (op == 1)
  else
   if (op == 2)=true then
    Ed fu op (op == 2)
   else
    Ed fu op (op == 3)
theorem Ii (fu:Nat)(op:Int):Le (Iq fu op) (Jh op):=by
 unfold Iq Jh
 repeat (first | exact Le.rfl | exact Q14 fu _ _ | exact R0 _ | refine Le.bind ?_ (fun _=>?_) | refine Le.ite ?_ ?_)
def V0 (fu:Nat)(ok:Bool)(syntaxReport:J0):Option J0:=
 some (J0.mk syntaxReport.nodes syntaxReport.depth (bif syntaxReport.badForm then true else (!ok)) syntaxReport.badName syntaxReport.badNumber)
theorem B1 (fu:Nat)(ok:Bool)(syntaxReport:J0):Le (V0 fu ok syntaxReport) (S0 ok syntaxReport):=by
 unfold V0 S0
 repeat (first | exact Le.rfl | exact R0 _ | refine Le.bind ?_ (fun _=>?_) | refine Le.ite ?_ ?_)
def Mg:Nat→A0→Option Bool
 | 0,_=>none
 | fu+1,o0=>
  if (bif (o0.Op == 4) then true else (o0.Op == 5))=true then
   if (((o0.Kids).length:Int) == 0)=true then
    some false
   else
    idx o0.Kids 0>>=fun x1=>
    Mg fu x1
  else
   some (o0.Op == 3)
theorem D13 (fu:Nat):(∀ (o0:A0),Le (Mg fu o0) (S7 o0)):=by
 induction fu with
 | zero=>exact fun _=>Le.none
 | succ fu ih=>
  have ih0:=ih
  refine fun o0=>?_
  ·rw [Mg,S7]
   repeat (first | exact Le.rfl | exact ih0 _ | exact R0 _ | refine Le.bind ?_ (fun _=>?_) | refine Le.ite ?_ ?_)
theorem R14 (fu:Nat)(o0:A0):Le (Mg fu o0) (S7 o0):=(D13 fu) o0
def Yl (fu:Nat)(e:A0):Option Bool:=
 Mg fu e
theorem C6 (fu:Nat)(e:A0):Le (Yl fu e) (Ze e):=by
 unfold Yl Ze
 repeat (first | exact Le.rfl | exact R14 fu _ | exact R0 _ | refine Le.bind ?_ (fun _=>?_) | refine Le.ite ?_ ?_)
def Kn (fu:Nat)(c:Int):Option Bool:=
 some (bif (decide (c≥97)) then (decide (c≤122)) else false)
theorem B16 (fu:Nat)(c:Int):Le (Kn fu c) (Eh c):=by
 unfold Kn Eh
 repeat (first | exact Le.rfl | exact R0 _ | refine Le.bind ?_ (fun _=>?_) | refine Le.ite ?_ ?_)
def Wo (fu:Nat)(c:Int):Option Bool:=
 some (bif (decide (c≥48)) then (decide (c≤57)) else false)
theorem H17 (fu:Nat)(c:Int):Le (Wo fu c) (Zh c):=by
 unfold Wo Zh
 repeat (first | exact Le.rfl | exact R0 _ | refine Le.bind ?_ (fun _=>?_) | refine Le.ite ?_ ?_)
def Ng:Nat→Str→Int→Option Bool
 | 0,_,_=>none
 | fu+1,s,v6=>
  if (decide (v6 < ((s).length:Int)))=true then
   idx s v6>>=fun x1=>
   Kn fu (x1.toNat:Int)>>=fun x2=>
   (if ((!x2)&&(!(v6 == 0)))=true then idx s v6 else some default)>>=fun x3=>
   (if ((!x2)&&(!(v6 == 0)))=true then Wo fu (x3.toNat:Int) else some default)>>=fun x4=>
   if (bif (!x2) then (bif (v6 == 0) then true else (!x4)) else false)=true then
    some false
   else
    Ng fu s (IntKind.i64.wrap (v6+1))
  else
   some (!(s == []))
theorem E13 (fu:Nat):(∀ (s:Str) (v6:Int),Le (Ng fu s v6) (C5 s v6)):=by
 induction fu with
 | zero=>exact fun _ _=>Le.none
 | succ fu ih=>
  have ih0:=ih
  refine fun s v6=>?_
  ·rw [Ng,C5]
   repeat (first | exact Le.rfl | exact ih0 _ _ | exact B16 fu _ | exact H17 fu _ | exact R0 _ | refine Le.bind ?_ (fun _=>?_) | refine Le.ite ?_ ?_)
theorem S14 (fu:Nat)(s:Str)(v6:Int):Le (Ng fu s v6) (C5 s v6):=(E13 fu) s v6
def Jq (fu:Nat)(s:Str):Option Bool:=
 Ng fu s 0
theorem B19 (fu:Nat)(s:Str):Le (Jq fu s) (Jj s):=by
 unfold Jq Jj
 repeat (first | exact Le.rfl | exact S14 fu _ _ | exact R0 _ | refine Le.bind ?_ (fun _=>?_) | refine Le.ite ?_ ?_)
def Ln (fu:Nat)(W4:Str):Option Bool:=
 (if (!(W4 == []))=true then Ek W4 [32] else some default)>>=fun x1=>
 if (!(bif (!(W4 == [])) then (!x1) else false)||(decide (1+W4.length≤maxLen)))=true then
  if (!(bif (!(W4 == [])) then (!x1) else false)||(decide (([32]++W4).length+1≤maxLen)))=true then
   (if (bif (!(W4 == [])) then (!x1) else false)=true then Ek [32,116,121,112,101,32,115,101,99,114,101,116,32,112,117,98,108,105,99,32,114,97,110,100,111,109,32,118,97,114,32,104,97,116,99,104,32,102,117,110,99,32,114,101,116,117,114,110,32,98,101,103,105,110,32,101,110,100,32,98,111,111,108,32,105,110,116,32,97,114,114,97,121,32,111,102,32,114,101,99,111,114,100,32,116,114,117,101,32,102,97,108,115,101,32,99,97,108,108,32,114,101,108,101,97,115,101,32,111,117,116,112,117,116,32,119,97,105,116,32,105,102,32,101,108,115,101,32,119,104,105,108,101,32,108,105,109,105,116,32,102,111,114,32,116,111,32,115,101,116,116,108,101,32,109,105,110,32,109,97,120,32] (([32]++W4)++[32]) else some default)>>=fun x2=>
   some (bif (bif (!(W4 == [])) then (!x1) else false) then x2 else false)
  else none
 else none
theorem C16 (fu:Nat)(W4:Str):Le (Ln fu W4) (Ge W4):=by
 unfold Ln Ge
 repeat (first | exact Le.rfl | exact R0 _ | refine Le.bind ?_ (fun _=>?_) | refine Le.ite ?_ ?_)
def Kq (fu:Nat)(s:Str):Option Bool:=
 (if (decide (((s).length:Int)≤12))=true then Jq fu s else some default)>>=fun x1=>
 (if (bif (decide (((s).length:Int)≤12)) then x1 else false)=true then Ln fu s else some default)>>=fun x2=>
 some (bif (bif (decide (((s).length:Int)≤12)) then x1 else false) then (!x2) else false)
theorem C19 (fu:Nat)(s:Str):Le (Kq fu s) (Kj s):=by
 unfold Kq Kj
 repeat (first | exact Le.rfl | exact B19 fu _ | exact C16 fu _ | exact R0 _ | refine Le.bind ?_ (fun _=>?_) | refine Le.ite ?_ ?_)
def Xo (fu:Nat)(s:Str):Option Bool:=
 Kq fu s>>=fun x1=>
 some x1
theorem I17 (fu:Nat)(s:Str):Le (Xo fu s) (Gg s):=by
 unfold Xo Gg
 repeat (first | exact Le.rfl | exact C19 fu _ | exact R0 _ | refine Le.bind ?_ (fun _=>?_) | refine Le.ite ?_ ?_)
def V6 (fu:Nat)(s:Str)(syntaxReport:J0):Option J0:=
 (if (!syntaxReport.badName)=true then Xo fu s else some default)>>=fun x1=>
 some (J0.mk syntaxReport.nodes syntaxReport.depth syntaxReport.badForm (bif syntaxReport.badName then true else (!x1)) syntaxReport.badNumber)
theorem F1 (fu:Nat)(s:Str)(syntaxReport:J0):Le (V6 fu s syntaxReport) (X2 s syntaxReport):=by
 unfold V6 X2
 repeat (first | exact Le.rfl | exact I17 fu _ | exact R0 _ | refine Le.bind ?_ (fun _=>?_) | refine Le.ite ?_ ?_)
def F3 (fu:Nat)(n:Int)(low:Int)(high:Int):Option Bool:=
 some (bif (decide (n≥low)) then (decide (n≤high)) else false)
theorem A2 (fu:Nat)(n:Int)(low:Int)(high:Int):Le (F3 fu n low high) (S2 n low high):=by
 unfold F3 S2
 repeat (first | exact Le.rfl | exact R0 _ | refine Le.bind ?_ (fun _=>?_) | refine Le.ite ?_ ?_)
def E2 (fu:Nat)(ok:Bool)(syntaxReport:J0):Option J0:=
 some (J0.mk syntaxReport.nodes syntaxReport.depth syntaxReport.badForm syntaxReport.badName (bif syntaxReport.badNumber then true else (!ok)))
theorem I1 (fu:Nat)(ok:Bool)(syntaxReport:J0):Le (E2 fu ok syntaxReport) (Q1 ok syntaxReport):=by
 unfold E2 Q1
 repeat (first | exact Le.rfl | exact R0 _ | refine Le.bind ?_ (fun _=>?_) | refine Le.ite ?_ ?_)
mutual
def W6:Nat→A0→Int→J0→Option J0
 | 0,_,_,_=>none
 | fu+1,e,depth,syntaxReport=>
  Xb fu depth (J0.mk (IntKind.i64.wrap (syntaxReport.nodes+1)) syntaxReport.depth syntaxReport.badForm syntaxReport.badName syntaxReport.badNumber)>>=fun x1=>
  Iq fu e.Op>>=fun x2=>
  V0 fu (x2 == ((e.Kids).length:Int)) x1>>=fun x3=>
  V0 fu (bif (e.NV == 0) then true else (e.Op == 0)) x3>>=fun x4=>
  V0 fu (bif (e.Name == []) then true else (bif (e.Op == 3) then true else (e.Op == 4))) x4>>=fun x5=>
  if (bif (e.Op == 4) then true else (e.Op == 5))=true then
   Yl fu e>>=fun x6=>
   V0 fu x6 x5>>=fun x7=>
   Id fu e depth x7
  else
   Id fu e depth x5
def Id:Nat→A0→Int→J0→Option J0
 | 0,_,_,_=>none
 | fu+1,e,depth,o0=>
  if (bif (e.Op == 3) then true else (e.Op == 4))=true then
   V6 fu e.Name o0>>=fun x8=>
   Jd fu e depth x8
  else
   Jd fu e depth o0
def Jd:Nat→A0→Int→J0→Option J0
 | 0,_,_,_=>none
 | fu+1,e,depth,o01=>
  if (e.Op == 0)=true then
   F3 fu e.NV 0 1048576>>=fun x9=>
   E2 fu x9 o01>>=fun x10=>
   Kd fu e depth x10
  else
   Kd fu e depth o01
def Kd:Nat→A0→Int→J0→Option J0
 | 0,_,_,_=>none
 | fu+1,e,depth,o02=>
  Ld fu e depth o02 0
def Ld:Nat→A0→Int→J0→Int→Option J0
 | 0,_,_,_,_=>none
 | fu+1,e,depth,o03,v82=>
  if (decide (v82 < ((e.Kids).length:Int)))=true then
   idx e.Kids v82>>=fun x11=>
   W6 fu x11 (IntKind.i64.wrap (depth+1)) o03>>=fun x12=>
   Ld fu e depth x12 (IntKind.i64.wrap (v82+1))
  else
   some o03
end
theorem Gy (fu:Nat):(∀ (e:A0) (depth:Int) (syntaxReport:J0),Le (W6 fu e depth syntaxReport) (C2 e depth syntaxReport))∧(∀ (e:A0) (depth:Int) (o0:J0),Le (Id fu e depth o0) (U5 e depth o0))∧(∀ (e:A0) (depth:Int) (o01:J0),Le (Jd fu e depth o01) (U7 e depth o01))∧(∀ (e:A0) (depth:Int) (o02:J0),Le (Kd fu e depth o02) (V7 e depth o02))∧(∀ (e:A0) (depth:Int) (o03:J0) (v82:Int),Le (Ld fu e depth o03 v82) (C3 e depth o03 v82)):=by
 induction fu with
 | zero=>exact ⟨fun _ _ _=>Le.none,fun _ _ _=>Le.none,fun _ _ _=>Le.none,fun _ _ _=>Le.none,fun _ _ _ _=>Le.none⟩
 | succ fu ih=>
  obtain ⟨ih0,ih1,ih2,ih3,ih4⟩:=ih
  refine ⟨fun e depth syntaxReport=>?_,fun e depth o0=>?_,fun e depth o01=>?_,fun e depth o02=>?_,fun e depth o03 v82=>?_⟩
  ·rw [W6,C2]
   repeat (first | exact Le.rfl | exact ih0 _ _ _ | exact ih1 _ _ _ | exact ih2 _ _ _ | exact ih3 _ _ _ | exact ih4 _ _ _ _ | exact T1 fu _ _ | exact Ii fu _ | exact B1 fu _ _ | exact C6 fu _ | exact F1 fu _ _ | exact A2 fu _ _ _ | exact I1 fu _ _ | exact R0 _ | refine Le.bind ?_ (fun _=>?_) | refine Le.ite ?_ ?_)
  ·rw [Id,U5]
   repeat (first | exact Le.rfl | exact ih0 _ _ _ | exact ih1 _ _ _ | exact ih2 _ _ _ | exact ih3 _ _ _ | exact ih4 _ _ _ _ | exact T1 fu _ _ | exact Ii fu _ | exact B1 fu _ _ | exact C6 fu _ | exact F1 fu _ _ | exact A2 fu _ _ _ | exact I1 fu _ _ | exact R0 _ | refine Le.bind ?_ (fun _=>?_) | refine Le.ite ?_ ?_)
  ·rw [Jd,U7]
   repeat (first | exact Le.rfl | exact ih0 _ _ _ | exact ih1 _ _ _ | exact ih2 _ _ _ | exact ih3 _ _ _ | exact ih4 _ _ _ _ | exact T1 fu _ _ | exact Ii fu _ | exact B1 fu _ _ | exact C6 fu _ | exact F1 fu _ _ | exact A2 fu _ _ _ | exact I1 fu _ _ | exact R0 _ | refine Le.bind ?_ (fun _=>?_) | refine Le.ite ?_ ?_)
  ·rw [Kd,V7]
   repeat (first | exact Le.rfl | exact ih0 _ _ _ | exact ih1 _ _ _ | exact ih2 _ _ _ | exact ih3 _ _ _ | exact ih4 _ _ _ _ | exact T1 fu _ _ | exact Ii fu _ | exact B1 fu _ _ | exact C6 fu _ | exact F1 fu _ _ | exact A2 fu _ _ _ | exact I1 fu _ _ | exact R0 _ | refine Le.bind ?_ (fun _=>?_) | refine Le.ite ?_ ?_)
  ·rw [Ld,C3]
   repeat (first | exact Le.rfl | exact ih0 _ _ _ | exact ih1 _ _ _ | exact ih2 _ _ _ | exact ih3 _ _ _ | exact ih4 _ _ _ _ | exact T1 fu _ _ | exact Ii fu _ | exact B1 fu _ _ | exact C6 fu _ | exact F1 fu _ _ | exact A2 fu _ _ _ | exact I1 fu _ _ | exact R0 _ | refine Le.bind ?_ (fun _=>?_) | refine Le.ite ?_ ?_)
theorem W5 (fu:Nat)(e:A0)(depth:Int)(syntaxReport:J0):Le (W6 fu e depth syntaxReport) (C2 e depth syntaxReport):=(Gy fu).1 e depth syntaxReport
def Yb (fu:Nat)(syntaxReport:J0):Option Int:=
 if (bif (decide (syntaxReport.nodes > 1024)) then true else (decide (syntaxReport.depth > 12)))=true then
  some 4
 else
  if syntaxReport.badForm=true then
   some 1
  else
   if syntaxReport.badName=true then
    some 7
   else
    if syntaxReport.badNumber=true then
     some 3
    else
     some 0
theorem Vj (fu:Nat)(syntaxReport:J0):Le (Yb fu syntaxReport) (D4 syntaxReport):=by
 unfold Yb D4
 repeat (first | exact Le.rfl | exact R0 _ | refine Le.bind ?_ (fun _=>?_) | refine Le.ite ?_ ?_)
def Ji (fu:Nat)(e:A0):Option Int:=
 W6 fu e 1 (J0.mk 0 0 false false false)>>=fun x1=>
 Yb fu x1>>=fun x2=>
 some x2
theorem Wp (fu:Nat)(e:A0):Le (Ji fu e) (He e):=by
 unfold Ji He
 repeat (first | exact Le.rfl | exact W5 fu _ _ _ | exact Vj fu _ | exact R0 _ | refine Le.bind ?_ (fun _=>?_) | refine Le.ite ?_ ?_)
def Og (fu:Nat)(op:Int)(v20:Bool):Option Int:=
 if v20=true then
  some 5
 else
  if (op == 6)=true then
   if (op == 6)=true then
    some 6
   else
    some 7
  else
   if (op == 7)=true then
    some 6
   else
    some 7
theorem T14 (fu:Nat)(op:Int)(v20:Bool):Le (Og fu op v20) (Tb op v20):=by
 unfold Og Tb
 repeat (first | exact Le.rfl | exact R0 _ | refine Le.bind ?_ (fun _=>?_) | refine Le.ite ?_ ?_)
def Bj (fu:Nat)(op:Int)(v17:Bool):Option Int:=
 if v17=true then
  some 4
 else
  if (op == 10)=true then
   Og fu op (op == 10)
  else
   if (op == 11)=true then
    Og fu op (op == 11)
   else
    Og fu op (op == 12)
theorem U14 (fu:Nat)(op:Int)(v17:Bool):Le (Bj fu op v17) (Rf op v17):=by
 unfold Bj Rf
 repeat (first | exact Le.rfl | exact T14 fu _ _ | exact R0 _ | refine Le.bind ?_ (fun _=>?_) | refine Le.ite ?_ ?_)
def N7 (fu:Nat)(op:Int)(v10:Bool):Option Int:=
 if v10=true then
  some 3
 else
  if (op == 8)=true then
   Bj fu op (op == 8)
  else
   Bj fu op (op == 9)
theorem V14 (fu:Nat)(op:Int)(v10:Bool):Le (N7 fu op v10) (A6 op v10):=by
 unfold N7 A6
 repeat (first | exact Le.rfl | exact U14 fu _ _ | exact R0 _ | refine Le.bind ?_ (fun _=>?_) | refine Le.ite ?_ ?_)
def Zl (fu:Nat)(op:Int):Option Int:=
 if (op == 23)=true then
  some 0
 else
  if (op == 20)=true then
   some 1
  else
   if (op == 19)=true then
    some 2
   else
    if (op == 13)=true then
     N7 fu op (op == 13)
    else
     if (op == 14)=true then
      N7 fu op (op == 14)
     else
      if (op == 15)=true then
       N7 fu op (op == 15)
      else
       if (op == 16)=true then
        N7 fu op (op == 16)
       else
        if (op == 17)=true then
         N7 fu op (op == 17)
        else
         N7 fu op (op == 18)
theorem D6 (fu:Nat)(op:Int):Le (Zl fu op) (Nj op):=by
 unfold Zl Nj
 repeat (first | exact Le.rfl | exact V14 fu _ _ | exact R0 _ | refine Le.bind ?_ (fun _=>?_) | refine Le.ite ?_ ?_)
mutual
def C1:Nat→A0→Str→Option Str
 | 0,_,_=>none
 | fu+1,e,b=>
  if (e.Op == 0)=true then
   Eg e.NV>>=fun x1=>
   I0 x1 b>>=fun x2=>
   some x2.2
  else
   if (e.Op == 1)=true then
    I0 [116,114,117,101] b>>=fun x3=>
    some x3.2
   else
    if (e.Op == 2)=true then
     I0 [102,97,108,115,101] b>>=fun x4=>
     some x4.2
    else
     if (e.Op == 3)=true then
      I0 e.Name b>>=fun x5=>
      some x5.2
     else
      if (e.Op == 4)=true then
       idx e.Kids 0>>=fun x6=>
       C1 fu x6 b>>=fun x14=>
       if (decide (1+e.Name.length≤maxLen))=true then
        I0 ([46]++e.Name) x14>>=fun x15=>
        some x15.2
       else none
      else
       if (e.Op == 5)=true then
        idx e.Kids 0>>=fun x7=>
        C1 fu x7 b>>=fun x16=>
        I0 [91] x16>>=fun x17=>
        idx e.Kids 1>>=fun x18=>
        C1 fu x18 x17.2>>=fun x19=>
        I0 [93] x19>>=fun x20=>
        some x20.2
       else
        if (e.Op == 6)=true then
         Zb fu e b (e.Op == 6)
        else
         Zb fu e b (e.Op == 7)
def Zb:Nat→A0→Str→Bool→Option Str
 | 0,_,_,_=>none
 | fu+1,e,b,v77=>
  if v77=true then
   if (e.Op == 7)=true then
    Ac fu e b [33]
   else
    Ac fu e b [45]
  else
   if (e.Op == 21)=true then
    Cc fu e b (e.Op == 21)
   else
    Cc fu e b (e.Op == 22)
def Ac:Nat→A0→Str→Str→Option Str
 | 0,_,_,_=>none
 | fu+1,e,b,sign=>
  I0 sign b>>=fun x8=>
  idx e.Kids 0>>=fun x9=>
  V8 fu x9 6 x8.2>>=fun x21=>
  some x21
def V8:Nat→A0→Int→Str→Option Str
 | 0,_,_,_=>none
 | fu+1,e,required,b=>
  Zl fu e.Op>>=fun x1=>
  if (decide (x1≥required))=true then
   C1 fu e b>>=fun x3=>
   some x3
  else
   I0 [40] b>>=fun x2=>
   C1 fu e x2.2>>=fun x4=>
   I0 [41] x4>>=fun x5=>
   some x5.2
def Cc:Nat→A0→Str→Bool→Option Str
 | 0,_,_,_=>none
 | fu+1,e,b,v94=>
  if v94=true then
   if (e.Op == 22)=true then
    Dc fu e b [109,97,120,40]
   else
    Dc fu e b [109,105,110,40]
  else
   if (e.Op == 23)=true then
    idx e.Kids 0>>=fun x13=>
    V8 fu x13 1 b>>=fun x22=>
    I0 [32,63,32] x22>>=fun x23=>
    idx e.Kids 1>>=fun x24=>
    C1 fu x24 x23.2>>=fun x25=>
    I0 [32,58,32] x25>>=fun x26=>
    idx e.Kids 2>>=fun x27=>
    C1 fu x27 x26.2>>=fun x28=>
    some x28
   else
    Uh fu e b>>=fun x29=>
    some x29
def Dc:Nat→A0→Str→Str→Option Str
 | 0,_,_,_=>none
 | fu+1,e,b,W4=>
  I0 W4 b>>=fun x10=>
  Kb fu e.Kids x10.2>>=fun x11=>
  I0 [41] x11>>=fun x12=>
  some x12.2
def Kb:Nat→(List A0)→Str→Option Str
 | 0,_,_=>none
 | fu+1,l,b=>
  J8 fu l b 0
def J8:Nat→(List A0)→Str→Int→Option Str
 | 0,_,_,_=>none
 | fu+1,l,b1,v8=>
  if (decide (v8 < ((l).length:Int)))=true then
   idx l v8>>=fun x1=>
   if (decide (v8 > 0))=true then
    I0 [44,32] b1>>=fun x3=>
    C1 fu x1 x3.2>>=fun x2=>
    J8 fu l x2 (IntKind.i64.wrap (v8+1))
   else
    C1 fu x1 b1>>=fun x2=>
    J8 fu l x2 (IntKind.i64.wrap (v8+1))
  else
   some b1
def Uh:Nat→A0→Str→Option Str
 | 0,_,_=>none
 | fu+1,e,b=>
  Zl fu e.Op>>=fun x1=>
  if (x1 == 3)=true then
   Ha fu e b x1 4
  else
   Ha fu e b x1 x1
def Ha:Nat→A0→Str→Int→Int→Option Str
 | 0,_,_,_,_=>none
 | fu+1,e,b,x1,left=>
  idx e.Kids 0>>=fun x2=>
  V8 fu x2 left b>>=fun x3=>
  idx Dr (IntKind.i64.wrap (e.Op - 8))>>=fun x4=>
  if (decide (1+x4.length≤maxLen))=true then
   if (decide (([32]++x4).length+1≤maxLen))=true then
    I0 (([32]++x4)++[32]) x3>>=fun x5=>
    idx e.Kids 1>>=fun x6=>
    V8 fu x6 (IntKind.i64.wrap (x1+1)) x5.2>>=fun x7=>
    some x7
   else none
  else none
end
theorem Fm (fu:Nat):(∀ (e:A0) (b:Str),Le (C1 fu e b) (A1 e b))∧(∀ (e:A0) (b:Str) (v77:Bool),Le (Zb fu e b v77) (T9 e b v77))∧(∀ (e:A0) (b:Str) (sign:Str),Le (Ac fu e b sign) (W9 e b sign))∧(∀ (e:A0) (required:Int) (b:Str),Le (V8 fu e required b) (A8 e required b))∧(∀ (e:A0) (b:Str) (v94:Bool),Le (Cc fu e b v94) (U9 e b v94))∧(∀ (e:A0) (b:Str) (W4:Str),Le (Dc fu e b W4) (V9 e b W4))∧(∀ (l:List A0) (b:Str),Le (Kb fu l b) (Q7 l b))∧(∀ (l:List A0) (b1:Str) (v8:Int),Le (J8 fu l b1 v8) (B7 l b1 v8))∧(∀ (e:A0) (b:Str),Le (Uh fu e b) (Sf e b))∧(∀ (e:A0) (b:Str) (x1:Int) (left:Int),Le (Ha fu e b x1 left) (Z7 e b x1 left)):=by
 induction fu with
 | zero=>exact ⟨fun _ _=>Le.none,fun _ _ _=>Le.none,fun _ _ _=>Le.none,fun _ _ _=>Le.none,fun _ _ _=>Le.none,fun _ _ _=>Le.none,fun _ _=>Le.none,fun _ _ _=>Le.none,fun _ _=>Le.none,fun _ _ _ _=>Le.none⟩
 | succ fu ih=>
  obtain ⟨ih0,ih1,ih2,ih3,ih4,ih5,ih6,ih7,ih8,ih9⟩:=ih
  refine ⟨fun e b=>?_,fun e b v77=>?_,fun e b sign=>?_,fun e required b=>?_,fun e b v94=>?_,fun e b W4=>?_,fun l b=>?_,fun l b1 v8=>?_,fun e b=>?_,fun e b x1 left=>?_⟩
  ·rw [C1,A1]
   repeat (first | exact Le.rfl | exact ih0 _ _ | exact ih1 _ _ _ | exact ih2 _ _ _ | exact ih3 _ _ _ | exact ih4 _ _ _ | exact ih5 _ _ _ | exact ih6 _ _ | exact ih7 _ _ _ | exact ih8 _ _ | exact ih9 _ _ _ _ | exact D6 fu _ | exact R0 _ | refine Le.bind ?_ (fun _=>?_) | refine Le.ite ?_ ?_)
  ·rw [Zb,T9]
   repeat (first | exact Le.rfl | exact ih0 _ _ | exact ih1 _ _ _ | exact ih2 _ _ _ | exact ih3 _ _ _ | exact ih4 _ _ _ | exact ih5 _ _ _ | exact ih6 _ _ | exact ih7 _ _ _ | exact ih8 _ _ | exact ih9 _ _ _ _ | exact D6 fu _ | exact R0 _ | refine Le.bind ?_ (fun _=>?_) | refine Le.ite ?_ ?_)
  ·rw [Ac,W9]
   repeat (first | exact Le.rfl | exact ih0 _ _ | exact ih1 _ _ _ | exact ih2 _ _ _ | exact ih3 _ _ _ | exact ih4 _ _ _ | exact ih5 _ _ _ | exact ih6 _ _ | exact ih7 _ _ _ | exact ih8 _ _ | exact ih9 _ _ _ _ | exact D6 fu _ | exact R0 _ | refine Le.bind ?_ (fun _=>?_) | refine Le.ite ?_ ?_)
  ·rw [V8,A8]
   repeat (first | exact Le.rfl | exact ih0 _ _ | exact ih1 _ _ _ | exact ih2 _ _ _ | exact ih3 _ _ _ | exact ih4 _ _ _ | exact ih5 _ _ _ | exact ih6 _ _ | exact ih7 _ _ _ | exact ih8 _ _ | exact ih9 _ _ _ _ | exact D6 fu _ | exact R0 _ | refine Le.bind ?_ (fun _=>?_) | refine Le.ite ?_ ?_)
  ·rw [Cc,U9]
   repeat (first | exact Le.rfl | exact ih0 _ _ | exact ih1 _ _ _ | exact ih2 _ _ _ | exact ih3 _ _ _ | exact ih4 _ _ _ | exact ih5 _ _ _ | exact ih6 _ _ | exact ih7 _ _ _ | exact ih8 _ _ | exact ih9 _ _ _ _ | exact D6 fu _ | exact R0 _ | refine Le.bind ?_ (fun _=>?_) | refine Le.ite ?_ ?_)
  ·rw [Dc,V9]
   repeat (first | exact Le.rfl | exact ih0 _ _ | exact ih1 _ _ _ | exact ih2 _ _ _ | exact ih3 _ _ _ | exact ih4 _ _ _ | exact ih5 _ _ _ | exact ih6 _ _ | exact ih7 _ _ _ | exact ih8 _ _ | exact ih9 _ _ _ _ | exact D6 fu _ | exact R0 _ | refine Le.bind ?_ (fun _=>?_) | refine Le.ite ?_ ?_)
  ·rw [Kb,Q7]
   repeat (first | exact Le.rfl | exact ih0 _ _ | exact ih1 _ _ _ | exact ih2 _ _ _ | exact ih3 _ _ _ | exact ih4 _ _ _ | exact ih5 _ _ _ | exact ih6 _ _ | exact ih7 _ _ _ | exact ih8 _ _ | exact ih9 _ _ _ _ | exact D6 fu _ | exact R0 _ | refine Le.bind ?_ (fun _=>?_) | refine Le.ite ?_ ?_)
  ·rw [J8,B7]
   repeat (first | exact Le.rfl | exact ih0 _ _ | exact ih1 _ _ _ | exact ih2 _ _ _ | exact ih3 _ _ _ | exact ih4 _ _ _ | exact ih5 _ _ _ | exact ih6 _ _ | exact ih7 _ _ _ | exact ih8 _ _ | exact ih9 _ _ _ _ | exact D6 fu _ | exact R0 _ | refine Le.bind ?_ (fun _=>?_) | refine Le.ite ?_ ?_)
  ·rw [Uh,Sf]
   repeat (first | exact Le.rfl | exact ih0 _ _ | exact ih1 _ _ _ | exact ih2 _ _ _ | exact ih3 _ _ _ | exact ih4 _ _ _ | exact ih5 _ _ _ | exact ih6 _ _ | exact ih7 _ _ _ | exact ih8 _ _ | exact ih9 _ _ _ _ | exact D6 fu _ | exact R0 _ | refine Le.bind ?_ (fun _=>?_) | refine Le.ite ?_ ?_)
  ·rw [Ha,Z7]
   repeat (first | exact Le.rfl | exact ih0 _ _ | exact ih1 _ _ _ | exact ih2 _ _ _ | exact ih3 _ _ _ | exact ih4 _ _ _ | exact ih5 _ _ _ | exact ih6 _ _ | exact ih7 _ _ _ | exact ih8 _ _ | exact ih9 _ _ _ _ | exact D6 fu _ | exact R0 _ | refine Le.bind ?_ (fun _=>?_) | refine Le.ite ?_ ?_)
theorem R5 (fu:Nat)(e:A0)(b:Str):Le (C1 fu e b) (A1 e b):=(Fm fu).1 e b
theorem Re (fu:Nat)(l:List A0)(b:Str):Le (Kb fu l b) (Q7 l b):=(Fm fu).2.2.2.2.2.2.1 l b
def Yf (fu:Nat)(b:Str):Option (Str×Int):=
 Fk b>>=fun x1=>
 if (decide (x1 > 8192))=true then
  some ([],5)
 else
  Th b>>=fun x2=>
  some (x2,0)
theorem Dn (fu:Nat)(b:Str):Le (Yf fu b) (Q9 b):=by
 unfold Yf Q9
 repeat (first | exact Le.rfl | exact R0 _ | refine Le.bind ?_ (fun _=>?_) | refine Le.ite ?_ ?_)
def Kf (fu:Nat)(e:A0):Option (Str×Int):=
 Ji fu e>>=fun x1=>
 if (x1 != 0)=true then
  some ([],x1)
 else
  C1 fu e []>>=fun x2=>
  Yf fu x2>>=fun x3=>
  some (x3.1,x3.2)
theorem F13 (fu:Nat)(e:A0):Le (Kf fu e) (Ia e):=by
 unfold Kf Ia
 repeat (first | exact Le.rfl | exact Wp fu _ | exact R5 fu _ _ | exact Dn fu _ | exact R0 _ | refine Le.bind ?_ (fun _=>?_) | refine Le.ite ?_ ?_)
def Mm (fu:Nat)(k:Int):Option (Bool×Bool):=
 some ((bif (decide (k≥0)) then (decide (k≤6)) else false),(bif (k == 5) then true else (k == 6)))
theorem Lf (fu:Nat)(k:Int):Le (Mm fu k) (Tf k):=by
 unfold Mm Tf
 repeat (first | exact Le.rfl | exact R0 _ | refine Le.bind ?_ (fun _=>?_) | refine Le.ite ?_ ?_)
def T4:Nat→(List Str)→(List Str)→Int→Option Bool
 | 0,_,_,_=>none
 | fu+1,s1,s2,v13=>
  if (decide (v13 < ((s1).length:Int)))=true then
   idx s1 v13>>=fun x1=>
   idx s2 v13>>=fun x2=>
   if (!(x1 == x2))=true then
    some false
   else
    T4 fu s1 s2 (IntKind.i64.wrap (v13+1))
  else
   some true
theorem En (fu:Nat):(∀ (s1:List Str) (s2:List Str) (v13:Int),Le (T4 fu s1 s2 v13) (U1 s1 s2 v13)):=by
 induction fu with
 | zero=>exact fun _ _ _=>Le.none
 | succ fu ih=>
  have ih0:=ih
  refine fun s1 s2 v13=>?_
  ·rw [T4,U1]
   repeat (first | exact Le.rfl | exact ih0 _ _ _ | exact R0 _ | refine Le.bind ?_ (fun _=>?_) | refine Le.ite ?_ ?_)
theorem Mn (fu:Nat)(s1:List Str)(s2:List Str)(v13:Int):Le (T4 fu s1 s2 v13) (U1 s1 s2 v13):=(En fu) s1 s2 v13
def Ke (fu:Nat)(s1:List Str)(s2:List Str):Option Bool:=
 if (((s1).length:Int) != ((s2).length:Int))=true then
  some false
 else
  T4 fu s1 s2 0
theorem Hd (fu:Nat)(s1:List Str)(s2:List Str):Le (Ke fu s1 s2) (W3 s1 s2):=by
 unfold Ke W3
 repeat (first | exact Le.rfl | exact Mn fu _ _ _ | exact R0 _ | refine Le.bind ?_ (fun _=>?_) | refine Le.ite ?_ ?_)
mutual
def Mf:Nat→D0→D0→Option Bool
 | 0,_,_=>none
 | fu+1,a,b=>
  (if (bif (bif (bif (bif (a.Kind == b.Kind) then (a.Low == b.Low) else false) then (a.High == b.High) else false) then (a.Size == b.Size) else false) then (a.Name == b.Name) else false)=true then Ke fu a.Names b.Names else some default)>>=fun x1=>
  (if (bif (bif (bif (bif (bif (a.Kind == b.Kind) then (a.Low == b.Low) else false) then (a.High == b.High) else false) then (a.Size == b.Size) else false) then (a.Name == b.Name) else false) then x1 else false)=true then N3 fu a.Of b.Of else some default)>>=fun x2=>
  some (bif (bif (bif (bif (bif (bif (a.Kind == b.Kind) then (a.Low == b.Low) else false) then (a.High == b.High) else false) then (a.Size == b.Size) else false) then (a.Name == b.Name) else false) then x1 else false) then x2 else false)
def N3:Nat→(List D0)→(List D0)→Option Bool
 | 0,_,_=>none
 | fu+1,s1,s2=>
  if (((s1).length:Int) != ((s2).length:Int))=true then
   some false
  else
   I2 fu s1 s2 0
def I2:Nat→(List D0)→(List D0)→Int→Option Bool
 | 0,_,_,_=>none
 | fu+1,s1,s2,v17=>
  if (decide (v17 < ((s1).length:Int)))=true then
   idx s1 v17>>=fun x1=>
   idx s2 v17>>=fun x2=>
   Mf fu x1 x2>>=fun x3=>
   if (!x3)=true then
    some false
   else
    I2 fu s1 s2 (IntKind.i64.wrap (v17+1))
  else
   some true
end
theorem H11 (fu:Nat):(∀ (a:D0) (b:D0),Le (Mf fu a b) (P4 a b))∧(∀ (s1:List D0) (s2:List D0),Le (N3 fu s1 s2) (N1 s1 s2))∧(∀ (s1:List D0) (s2:List D0) (v17:Int),Le (I2 fu s1 s2 v17) (Y0 s1 s2 v17)):=by
 induction fu with
 | zero=>exact ⟨fun _ _=>Le.none,fun _ _=>Le.none,fun _ _ _=>Le.none⟩
 | succ fu ih=>
  obtain ⟨ih0,ih1,ih2⟩:=ih
  refine ⟨fun a b=>?_,fun s1 s2=>?_,fun s1 s2 v17=>?_⟩
  ·rw [Mf,P4]
   repeat (first | exact Le.rfl | exact ih0 _ _ | exact ih1 _ _ | exact ih2 _ _ _ | exact Hd fu _ _ | exact R0 _ | refine Le.bind ?_ (fun _=>?_) | refine Le.ite ?_ ?_)
  ·rw [N3,N1]
   repeat (first | exact Le.rfl | exact ih0 _ _ | exact ih1 _ _ | exact ih2 _ _ _ | exact Hd fu _ _ | exact R0 _ | refine Le.bind ?_ (fun _=>?_) | refine Le.ite ?_ ?_)
  ·rw [I2,Y0]
   repeat (first | exact Le.rfl | exact ih0 _ _ | exact ih1 _ _ | exact ih2 _ _ _ | exact Hd fu _ _ | exact R0 _ | refine Le.bind ?_ (fun _=>?_) | refine Le.ite ?_ ?_)
theorem Zd (fu:Nat)(a:D0)(b:D0):Le (Mf fu a b) (P4 a b):=(H11 fu).1 a b
mutual
def Ae:Nat→D0→Int→J0→Option J0
 | 0,_,_,_=>none
 | fu+1,t,depth,syntaxReport=>
  Xb fu depth (J0.mk (IntKind.i64.wrap (syntaxReport.nodes+1)) syntaxReport.depth syntaxReport.badForm syntaxReport.badName syntaxReport.badNumber)>>=fun x1=>
  V0 fu (bif (decide (t.Kind≥0)) then (decide (t.Kind≤4)) else false) x1>>=fun x2=>
  V0 fu (bif (t.Kind == 1) then true else (bif (t.Low == 0) then (t.High == 0) else false)) x2>>=fun x3=>
  V0 fu (bif (t.Kind == 2) then true else (t.Size == 0)) x3>>=fun x4=>
  V0 fu (bif (t.Kind == 4) then true else (t.Name == [])) x4>>=fun x5=>
  V0 fu (bif (t.Kind == 3) then true else (((t.Names).length:Int) == 0)) x5>>=fun x6=>
  if (t.Kind == 2)=true then
   V0 fu (((t.Of).length:Int) == 1) x6>>=fun x7=>
   F3 fu t.Size 1 32>>=fun x8=>
   E2 fu x8 x7>>=fun x9=>
   Ca fu t depth x9
  else
   if (t.Kind == 3)=true then
    V0 fu (bif (decide (((t.Of).length:Int)≥1)) then (((t.Of).length:Int) == ((t.Names).length:Int)) else false) x6>>=fun x14=>
    E2 fu (decide (((t.Of).length:Int)≤32)) x14>>=fun x15=>
    Ca fu t depth x15
   else
    V0 fu (((t.Of).length:Int) == 0) x6>>=fun x16=>
    Ca fu t depth x16
def Ca:Nat→D0→Int→J0→Option J0
 | 0,_,_,_=>none
 | fu+1,t,depth,o0=>
  if (t.Kind == 1)=true then
   F3 fu t.Low (-1048576) 1048576>>=fun x10=>
   (if x10=true then F3 fu t.High t.Low 1048576 else some default)>>=fun x11=>
   E2 fu (bif x10 then x11 else false) o0>>=fun x12=>
   Se fu t depth x12
  else
   Se fu t depth o0
def Se:Nat→D0→Int→J0→Option J0
 | 0,_,_,_=>none
 | fu+1,t,depth,o01=>
  if (t.Kind == 4)=true then
   V6 fu t.Name o01>>=fun x13=>
   Te fu t depth x13
  else
   Te fu t depth o01
def Te:Nat→D0→Int→J0→Option J0
 | 0,_,_,_=>none
 | fu+1,t,depth,o02=>
  Ue fu t depth o02 0
def Ue:Nat→D0→Int→J0→Int→Option J0
 | 0,_,_,_,_=>none
 | fu+1,t,depth,o03,v147=>
  if (decide (v147 < ((t.Names).length:Int)))=true then
   idx t.Names v147>>=fun x17=>
   V6 fu x17 o03>>=fun x18=>
   Ue fu t depth x18 (IntKind.i64.wrap (v147+1))
  else
   We fu t depth o03 0
def We:Nat→D0→Int→J0→Int→Option J0
 | 0,_,_,_,_=>none
 | fu+1,t,depth,o04,v158=>
  if (decide (v158 < ((t.Of).length:Int)))=true then
   idx t.Of v158>>=fun x19=>
   Ae fu x19 (IntKind.i64.wrap (depth+1)) o04>>=fun x20=>
   We fu t depth x20 (IntKind.i64.wrap (v158+1))
  else
   some o04
end
theorem Lz (fu:Nat):(∀ (t:D0) (depth:Int) (syntaxReport:J0),Le (Ae fu t depth syntaxReport) (G3 t depth syntaxReport))∧(∀ (t:D0) (depth:Int) (o0:J0),Le (Ca fu t depth o0) (D5 t depth o0))∧(∀ (t:D0) (depth:Int) (o01:J0),Le (Se fu t depth o01) (F5 t depth o01))∧(∀ (t:D0) (depth:Int) (o02:J0),Le (Te fu t depth o02) (R6 t depth o02))∧(∀ (t:D0) (depth:Int) (o03:J0) (v147:Int),Le (Ue fu t depth o03 v147) (I3 t depth o03 v147))∧(∀ (t:D0) (depth:Int) (o04:J0) (v158:Int),Le (We fu t depth o04 v158) (A4 t depth o04 v158)):=by
 induction fu with
 | zero=>exact ⟨fun _ _ _=>Le.none,fun _ _ _=>Le.none,fun _ _ _=>Le.none,fun _ _ _=>Le.none,fun _ _ _ _=>Le.none,fun _ _ _ _=>Le.none⟩
 | succ fu ih=>
  obtain ⟨ih0,ih1,ih2,ih3,ih4,ih5⟩:=ih
  refine ⟨fun t depth syntaxReport=>?_,fun t depth o0=>?_,fun t depth o01=>?_,fun t depth o02=>?_,fun t depth o03 v147=>?_,fun t depth o04 v158=>?_⟩
  ·rw [Ae,G3]
   repeat (first | exact Le.rfl | exact ih0 _ _ _ | exact ih1 _ _ _ | exact ih2 _ _ _ | exact ih3 _ _ _ | exact ih4 _ _ _ _ | exact ih5 _ _ _ _ | exact T1 fu _ _ | exact B1 fu _ _ | exact A2 fu _ _ _ | exact I1 fu _ _ | exact F1 fu _ _ | exact R0 _ | refine Le.bind ?_ (fun _=>?_) | refine Le.ite ?_ ?_)
  ·rw [Ca,D5]
   repeat (first | exact Le.rfl | exact ih0 _ _ _ | exact ih1 _ _ _ | exact ih2 _ _ _ | exact ih3 _ _ _ | exact ih4 _ _ _ _ | exact ih5 _ _ _ _ | exact T1 fu _ _ | exact B1 fu _ _ | exact A2 fu _ _ _ | exact I1 fu _ _ | exact F1 fu _ _ | exact R0 _ | refine Le.bind ?_ (fun _=>?_) | refine Le.ite ?_ ?_)
  ·rw [Se,F5]
   repeat (first | exact Le.rfl | exact ih0 _ _ _ | exact ih1 _ _ _ | exact ih2 _ _ _ | exact ih3 _ _ _ | exact ih4 _ _ _ _ | exact ih5 _ _ _ _ | exact T1 fu _ _ | exact B1 fu _ _ | exact A2 fu _ _ _ | exact I1 fu _ _ | exact F1 fu _ _ | exact R0 _ | refine Le.bind ?_ (fun _=>?_) | refine Le.ite ?_ ?_)
  ·rw [Te,R6]
   repeat (first | exact Le.rfl | exact ih0 _ _ _ | exact ih1 _ _ _ | exact ih2 _ _ _ | exact ih3 _ _ _ | exact ih4 _ _ _ _ | exact ih5 _ _ _ _ | exact T1 fu _ _ | exact B1 fu _ _ | exact A2 fu _ _ _ | exact I1 fu _ _ | exact F1 fu _ _ | exact R0 _ | refine Le.bind ?_ (fun _=>?_) | refine Le.ite ?_ ?_)
  ·rw [Ue,I3]
   repeat (first | exact Le.rfl | exact ih0 _ _ _ | exact ih1 _ _ _ | exact ih2 _ _ _ | exact ih3 _ _ _ | exact ih4 _ _ _ _ | exact ih5 _ _ _ _ | exact T1 fu _ _ | exact B1 fu _ _ | exact A2 fu _ _ _ | exact I1 fu _ _ | exact F1 fu _ _ | exact R0 _ | refine Le.bind ?_ (fun _=>?_) | refine Le.ite ?_ ?_)
  ·rw [We,A4]
   repeat (first | exact Le.rfl | exact ih0 _ _ _ | exact ih1 _ _ _ | exact ih2 _ _ _ | exact ih3 _ _ _ | exact ih4 _ _ _ _ | exact ih5 _ _ _ _ | exact T1 fu _ _ | exact B1 fu _ _ | exact A2 fu _ _ _ | exact I1 fu _ _ | exact F1 fu _ _ | exact R0 _ | refine Le.bind ?_ (fun _=>?_) | refine Le.ite ?_ ?_)
theorem Ec (fu:Nat)(t:D0)(depth:Int)(syntaxReport:J0):Le (Ae fu t depth syntaxReport) (G3 t depth syntaxReport):=(Lz fu).1 t depth syntaxReport
mutual
def Nf:Nat→A0→A0→Option Bool
 | 0,_,_=>none
 | fu+1,a,b=>
  (if (bif (bif (a.Op == b.Op) then (a.NV == b.NV) else false) then (a.Name == b.Name) else false)=true then O3 fu a.Kids b.Kids else some default)>>=fun x1=>
  some (bif (bif (bif (a.Op == b.Op) then (a.NV == b.NV) else false) then (a.Name == b.Name) else false) then x1 else false)
def O3:Nat→(List A0)→(List A0)→Option Bool
 | 0,_,_=>none
 | fu+1,s1,s2=>
  if (((s1).length:Int) != ((s2).length:Int))=true then
   some false
  else
   J2 fu s1 s2 0
def J2:Nat→(List A0)→(List A0)→Int→Option Bool
 | 0,_,_,_=>none
 | fu+1,s1,s2,v17=>
  if (decide (v17 < ((s1).length:Int)))=true then
   idx s1 v17>>=fun x1=>
   idx s2 v17>>=fun x2=>
   Nf fu x1 x2>>=fun x3=>
   if (!x3)=true then
    some false
   else
    J2 fu s1 s2 (IntKind.i64.wrap (v17+1))
  else
   some true
end
theorem I11 (fu:Nat):(∀ (a:A0) (b:A0),Le (Nf fu a b) (X3 a b))∧(∀ (s1:List A0) (s2:List A0),Le (O3 fu s1 s2) (P1 s1 s2))∧(∀ (s1:List A0) (s2:List A0) (v17:Int),Le (J2 fu s1 s2 v17) (Z0 s1 s2 v17)):=by
 induction fu with
 | zero=>exact ⟨fun _ _=>Le.none,fun _ _=>Le.none,fun _ _ _=>Le.none⟩
 | succ fu ih=>
  obtain ⟨ih0,ih1,ih2⟩:=ih
  refine ⟨fun a b=>?_,fun s1 s2=>?_,fun s1 s2 v17=>?_⟩
  ·rw [Nf,X3]
   repeat (first | exact Le.rfl | exact ih0 _ _ | exact ih1 _ _ | exact ih2 _ _ _ | exact R0 _ | refine Le.bind ?_ (fun _=>?_) | refine Le.ite ?_ ?_)
  ·rw [O3,P1]
   repeat (first | exact Le.rfl | exact ih0 _ _ | exact ih1 _ _ | exact ih2 _ _ _ | exact R0 _ | refine Le.bind ?_ (fun _=>?_) | refine Le.ite ?_ ?_)
  ·rw [J2,Z0]
   repeat (first | exact Le.rfl | exact ih0 _ _ | exact ih1 _ _ | exact ih2 _ _ _ | exact R0 _ | refine Le.bind ?_ (fun _=>?_) | refine Le.ite ?_ ?_)
theorem G13 (fu:Nat)(a:A0)(b:A0):Le (Nf fu a b) (X3 a b):=(I11 fu).1 a b
def K8 (fu:Nat)(e:A0)(used:Bool)(syntaxReport:J0):Option J0:=
 (if (!used)=true then Nf fu e (A0.mk 0 0 [] []) else some default)>>=fun x1=>
 if (bif (!used) then x1 else false)=true then
  some syntaxReport
 else
  V0 fu used syntaxReport>>=fun x2=>
  W6 fu e 1 x2>>=fun x3=>
  some x3
theorem O2 (fu:Nat)(e:A0)(used:Bool)(syntaxReport:J0):Le (K8 fu e used syntaxReport) (P2 e used syntaxReport):=by
 unfold K8 P2
 repeat (first | exact Le.rfl | exact G13 fu _ _ | exact B1 fu _ _ | exact W5 fu _ _ _ | exact R0 _ | refine Le.bind ?_ (fun _=>?_) | refine Le.ite ?_ ?_)
def Ql (fu:Nat)(v:Int):Option (G1×Bool):=
 if (v == 0)=true then
  some ((G1.mk true true false false false false false false false),true)
 else
  if (v == 1)=true then
   some ((G1.mk true false true true false false false false false),true)
  else
   if (v == 2)=true then
    some ((G1.mk true false true false false false false false false),true)
   else
    if (v == 3)=true then
     some ((G1.mk false true false false false false false false false),true)
    else
     if (v == 4)=true then
      some ((G1.mk false false false false true false false false false),true)
     else
      if (v == 5)=true then
       some ((G1.mk false true false false false false false true true),true)
      else
       if (v == 6)=true then
        some ((G1.mk false true false false true false false true false),true)
       else
        if (v == 7)=true then
         some ((G1.mk false false true false false true false true false),true)
        else
         if (v == 8)=true then
          some ((G1.mk false false false false false false true false false),true)
         else
          some ((G1.mk false false false false false false false false false),false)
theorem Ce (fu:Nat)(v:Int):Le (Ql fu v) (B8 v):=by
 unfold Ql B8
 repeat (first | exact Le.rfl | exact R0 _ | refine Le.bind ?_ (fun _=>?_) | refine Le.ite ?_ ?_)
def Y6:Nat→C0→J0→Int→Int→Option J0
 | 0,_,_,_,_=>none
 | fu+1,s,o0,last,v58=>
  if (decide (v58 < ((s.Numbers).length:Int)))=true then
   idx s.Numbers v58>>=fun x10=>
   F3 fu x10 0 1048576>>=fun x11=>
   E2 fu (bif x11 then (decide (x10 > last)) else false) o0>>=fun x12=>
   Y6 fu s x12 x10 (IntKind.i64.wrap (v58+1))
  else
   some o0
theorem Lq (fu:Nat):(∀ (s:C0) (o0:J0) (last:Int) (v58:Int),Le (Y6 fu s o0 last v58) (D2 s o0 last v58)):=by
 induction fu with
 | zero=>exact fun _ _ _ _=>Le.none
 | succ fu ih=>
  have ih0:=ih
  refine fun s o0 last v58=>?_
  ·rw [Y6,D2]
   repeat (first | exact Le.rfl | exact ih0 _ _ _ _ | exact A2 fu _ _ _ | exact I1 fu _ _ | exact R0 _ | refine Le.bind ?_ (fun _=>?_) | refine Le.ite ?_ ?_)
theorem Sr (fu:Nat)(s:C0)(o0:J0)(last:Int)(v58:Int):Le (Y6 fu s o0 last v58) (D2 s o0 last v58):=(Lq fu) s o0 last v58
def Wh (fu:Nat)(s:C0)(syntaxReport:J0):Option J0:=
 if (s.Verb == 4)=true then
  F3 fu s.NV 0 1048576>>=fun x1=>
  E2 fu x1 syntaxReport>>=fun x2=>
  some x2
 else
  if (s.Verb == 6)=true then
   F3 fu s.NV 0 4096>>=fun x3=>
   E2 fu x3 syntaxReport>>=fun x4=>
   some x4
  else
   if (s.Verb == 7)=true then
    F3 fu s.Low (-1048576) 1048576>>=fun x5=>
    (if x5=true then F3 fu s.High s.Low 1048576 else some default)>>=fun x6=>
    E2 fu (bif (bif x5 then x6 else false) then (decide ((IntKind.i64.wrap (s.High - s.Low)) < 4096)) else false) syntaxReport>>=fun x7=>
    some x7
   else
    if (s.Verb == 8)=true then
     F3 fu ((s.Numbers).length:Int) 1 32>>=fun x8=>
     E2 fu x8 syntaxReport>>=fun x9=>
     Y6 fu s x9 (-1) 0
    else
     some syntaxReport
theorem L8 (fu:Nat)(s:C0)(syntaxReport:J0):Le (Wh fu s syntaxReport) (S4 s syntaxReport):=by
 unfold Wh S4
 repeat (first | exact Le.rfl | exact A2 fu _ _ _ | exact I1 fu _ _ | exact Sr fu _ _ _ _ | exact R0 _ | refine Le.bind ?_ (fun _=>?_) | refine Le.ite ?_ ?_)
mutual
def X5:Nat→(List C0)→Int→J0→Option J0
 | 0,_,_,_=>none
 | fu+1,l,nesting,syntaxReport=>
  Fc fu l nesting syntaxReport 0
def Fc:Nat→(List C0)→Int→J0→Int→Option J0
 | 0,_,_,_,_=>none
 | fu+1,l,nesting,o03,v14=>
  if (decide (v14 < ((l).length:Int)))=true then
   idx l v14>>=fun x1=>
   Xb fu nesting (J0.mk (IntKind.i64.wrap (o03.nodes+1)) o03.depth o03.badForm o03.badName o03.badNumber)>>=fun x2=>
   Ql fu x1.Verb>>=fun x3=>
   V0 fu x3.2 x2>>=fun x4=>
   K8 fu x1.Place x3.1.place x4>>=fun x5=>
   if x3.1.place=true then
    Yl fu x1.Place>>=fun x6=>
    V0 fu x6 x5>>=fun x7=>
    Gc fu l nesting x7 x1 x3 v14
   else
    Gc fu l nesting x5 x1 x3 v14
  else
   some o03
def Gc:Nat→(List C0)→Int→J0→C0→(G1×Bool)→Int→Option J0
 | 0,_,_,_,_,_,_=>none
 | fu+1,l,nesting,o0,x1,x3,v141=>
  K8 fu x1.Value x3.1.value o0>>=fun x8=>
  V0 fu (bif x3.1.name then true else (x1.Name == [])) x8>>=fun x9=>
  if x3.1.name=true then
   V6 fu x1.Name x9>>=fun x10=>
   Hc fu l nesting x10 x1 x3 v141
  else
   Hc fu l nesting x9 x1 x3 v141
def Hc:Nat→(List C0)→Int→J0→C0→(G1×Bool)→Int→Option J0
 | 0,_,_,_,_,_,_=>none
 | fu+1,l,nesting,o01,x1,x3,v142=>
  V0 fu (bif x3.1.args then true else (((x1.Args).length:Int) == 0)) o01>>=fun x11=>
  Ic fu l nesting x11 x1 x3 v142 0
def Ic:Nat→(List C0)→Int→J0→C0→(G1×Bool)→Int→Int→Option J0
 | 0,_,_,_,_,_,_,_=>none
 | fu+1,l,nesting,o02,x1,x3,v143,v84=>
  if (decide (v84 < ((x1.Args).length:Int)))=true then
   idx x1.Args v84>>=fun x12=>
   W6 fu x12 1 o02>>=fun x13=>
   Ic fu l nesting x13 x1 x3 v143 (IntKind.i64.wrap (v84+1))
  else
   V0 fu (bif x3.1.n then true else (x1.NV == 0)) o02>>=fun x14=>
   V0 fu (bif x3.1.bounds then true else (bif (x1.Low == 0) then (x1.High == 0) else false)) x14>>=fun x15=>
   V0 fu (bif x3.1.numbers then true else (((x1.Numbers).length:Int) == 0)) x15>>=fun x16=>
   V0 fu (bif x3.1.thenV then true else (((x1.Then).length:Int) == 0)) x16>>=fun x17=>
   V0 fu (bif x3.1.other then true else (((x1.Else).length:Int) == 0)) x17>>=fun x18=>
   Wh fu x1 x18>>=fun x19=>
   X5 fu x1.Then (IntKind.i64.wrap (nesting+1)) x19>>=fun x20=>
   X5 fu x1.Else (IntKind.i64.wrap (nesting+1)) x20>>=fun x21=>
   Fc fu l nesting x21 (IntKind.i64.wrap (v143+1))
end
theorem Rw (fu:Nat):(∀ (l:List C0) (nesting:Int) (syntaxReport:J0),Le (X5 fu l nesting syntaxReport) (F2 l nesting syntaxReport))∧(∀ (l:List C0) (nesting:Int) (o03:J0) (v14:Int),Le (Fc fu l nesting o03 v14) (J3 l nesting o03 v14))∧(∀ (l:List C0) (nesting:Int) (o0:J0) (x1:C0) (x3:G1×Bool) (v141:Int),Le (Gc fu l nesting o0 x1 x3 v141) (F4 l nesting o0 x1 x3 v141))∧(∀ (l:List C0) (nesting:Int) (o01:J0) (x1:C0) (x3:G1×Bool) (v142:Int),Le (Hc fu l nesting o01 x1 x3 v142) (G4 l nesting o01 x1 x3 v142))∧(∀ (l:List C0) (nesting:Int) (o02:J0) (x1:C0) (x3:G1×Bool) (v143:Int) (v84:Int),Le (Ic fu l nesting o02 x1 x3 v143 v84) (N5 l nesting o02 x1 x3 v143 v84)):=by
 induction fu with
 | zero=>exact ⟨fun _ _ _=>Le.none,fun _ _ _ _=>Le.none,fun _ _ _ _ _ _=>Le.none,fun _ _ _ _ _ _=>Le.none,fun _ _ _ _ _ _ _=>Le.none⟩
 | succ fu ih=>
  obtain ⟨ih0,ih1,ih2,ih3,ih4⟩:=ih
  refine ⟨fun l nesting syntaxReport=>?_,fun l nesting o03 v14=>?_,fun l nesting o0 x1 x3 v141=>?_,fun l nesting o01 x1 x3 v142=>?_,fun l nesting o02 x1 x3 v143 v84=>?_⟩
  ·rw [X5,F2]
   repeat (first | exact Le.rfl | exact ih0 _ _ _ | exact ih1 _ _ _ _ | exact ih2 _ _ _ _ _ _ | exact ih3 _ _ _ _ _ _ | exact ih4 _ _ _ _ _ _ _ | exact T1 fu _ _ | exact Ce fu _ | exact B1 fu _ _ | exact O2 fu _ _ _ | exact C6 fu _ | exact F1 fu _ _ | exact W5 fu _ _ _ | exact L8 fu _ _ | exact R0 _ | refine Le.bind ?_ (fun _=>?_) | refine Le.ite ?_ ?_)
  ·rw [Fc,J3]
   repeat (first | exact Le.rfl | exact ih0 _ _ _ | exact ih1 _ _ _ _ | exact ih2 _ _ _ _ _ _ | exact ih3 _ _ _ _ _ _ | exact ih4 _ _ _ _ _ _ _ | exact T1 fu _ _ | exact Ce fu _ | exact B1 fu _ _ | exact O2 fu _ _ _ | exact C6 fu _ | exact F1 fu _ _ | exact W5 fu _ _ _ | exact L8 fu _ _ | exact R0 _ | refine Le.bind ?_ (fun _=>?_) | refine Le.ite ?_ ?_)
  ·rw [Gc,F4]
   repeat (first | exact Le.rfl | exact ih0 _ _ _ | exact ih1 _ _ _ _ | exact ih2 _ _ _ _ _ _ | exact ih3 _ _ _ _ _ _ | exact ih4 _ _ _ _ _ _ _ | exact T1 fu _ _ | exact Ce fu _ | exact B1 fu _ _ | exact O2 fu _ _ _ | exact C6 fu _ | exact F1 fu _ _ | exact W5 fu _ _ _ | exact L8 fu _ _ | exact R0 _ | refine Le.bind ?_ (fun _=>?_) | refine Le.ite ?_ ?_)
  ·rw [Hc,G4]
   repeat (first | exact Le.rfl | exact ih0 _ _ _ | exact ih1 _ _ _ _ | exact ih2 _ _ _ _ _ _ | exact ih3 _ _ _ _ _ _ | exact ih4 _ _ _ _ _ _ _ | exact T1 fu _ _ | exact Ce fu _ | exact B1 fu _ _ | exact O2 fu _ _ _ | exact C6 fu _ | exact F1 fu _ _ | exact W5 fu _ _ _ | exact L8 fu _ _ | exact R0 _ | refine Le.bind ?_ (fun _=>?_) | refine Le.ite ?_ ?_)
  ·rw [Ic,N5]
   repeat (first | exact Le.rfl | exact ih0 _ _ _ | exact ih1 _ _ _ _ | exact ih2 _ _ _ _ _ _ | exact ih3 _ _ _ _ _ _ | exact ih4 _ _ _ _ _ _ _ | exact T1 fu _ _ | exact Ce fu _ | exact B1 fu _ _ | exact O2 fu _ _ _ | exact C6 fu _ | exact F1 fu _ _ | exact W5 fu _ _ _ | exact L8 fu _ _ | exact R0 _ | refine Le.bind ?_ (fun _=>?_) | refine Le.ite ?_ ?_)
theorem F7 (fu:Nat)(l:List C0)(nesting:Int)(syntaxReport:J0):Le (X5 fu l nesting syntaxReport) (F2 l nesting syntaxReport):=(Rw fu).1 l nesting syntaxReport
mutual
def Y7:Nat→(List F0)→J0→Option J0
 | 0,_,_=>none
 | fu+1,l,syntaxReport=>
  Jc fu l syntaxReport 0
def Jc:Nat→(List F0)→J0→Int→Option J0
 | 0,_,_,_=>none
 | fu+1,l,o03,v15=>
  if (decide (v15 < ((l).length:Int)))=true then
   idx l v15>>=fun x1=>
   Mm fu x1.Kind>>=fun x2=>
   V0 fu x2.1 (J0.mk (IntKind.i64.wrap (o03.nodes+1)) o03.depth o03.badForm o03.badName o03.badNumber)>>=fun x3=>
   (if (!x2.1)=true then Mf fu x1.TypeV (D0.mk 0 0 0 0 [] [] []) else some default)>>=fun x4=>
   if (bif x2.1 then true else (!x4))=true then
    Ae fu x1.TypeV 1 x3>>=fun x5=>
    Kc fu l x5 x1 x2 v15
   else
    Kc fu l x3 x1 x2 v15
  else
   some o03
def Kc:Nat→(List F0)→J0→F0→(Bool×Bool)→Int→Option J0
 | 0,_,_,_,_,_=>none
 | fu+1,l,o0,x1,x2,v151=>
  V6 fu x1.Name o0>>=fun x6=>
  K8 fu x1.Value x2.2 x6>>=fun x7=>
  V0 fu (bif (x1.Kind == 4) then true else (x1.Init == 0)) x7>>=fun x8=>
  F3 fu x1.Init (-1048576) 1048576>>=fun x9=>
  (if (x9&&(!(x1.TypeV.Kind != 0)))=true then F3 fu x1.Init 0 1 else some default)>>=fun x10=>
  E2 fu (bif x9 then (bif (x1.TypeV.Kind != 0) then true else x10) else false) x8>>=fun x11=>
  V0 fu (bif (x1.Kind == 6) then true else (bif (bif (((x1.Params).length:Int) == 0) then (((x1.Vars).length:Int) == 0) else false) then (((x1.Body).length:Int) == 0) else false)) x11>>=fun x12=>
  Lc fu l x12 x1 v151 0
def Lc:Nat→(List F0)→J0→F0→Int→Int→Option J0
 | 0,_,_,_,_,_=>none
 | fu+1,l,o01,x1,v152,v109=>
  if (decide (v109 < ((x1.Params).length:Int)))=true then
   idx x1.Params v109>>=fun x13=>
   V0 fu (bif (x13.Kind == 4) then (x13.Init == 0) else false) o01>>=fun x14=>
   Lc fu l x14 x1 v152 (IntKind.i64.wrap (v109+1))
  else
   Mc fu l o01 x1 v152 0
def Mc:Nat→(List F0)→J0→F0→Int→Int→Option J0
 | 0,_,_,_,_,_=>none
 | fu+1,l,o02,x1,v153,v127=>
  if (decide (v127 < ((x1.Vars).length:Int)))=true then
   idx x1.Vars v127>>=fun x15=>
   V0 fu (x15.Kind == 4) o02>>=fun x16=>
   Mc fu l x16 x1 v153 (IntKind.i64.wrap (v127+1))
  else
   Y7 fu x1.Params o02>>=fun x17=>
   Y7 fu x1.Vars x17>>=fun x18=>
   X5 fu x1.Body 1 x18>>=fun x19=>
   Jc fu l x19 (IntKind.i64.wrap (v153+1))
end
theorem Sw (fu:Nat):(∀ (l:List F0) (syntaxReport:J0),Le (Y7 fu l syntaxReport) (E3 l syntaxReport))∧(∀ (l:List F0) (o03:J0) (v15:Int),Le (Jc fu l o03 v15) (H4 l o03 v15))∧(∀ (l:List F0) (o0:J0) (x1:F0) (x2:Bool×Bool) (v151:Int),Le (Kc fu l o0 x1 x2 v151) (P5 l o0 x1 x2 v151))∧(∀ (l:List F0) (o01:J0) (x1:F0) (v152:Int) (v109:Int),Le (Lc fu l o01 x1 v152 v109) (I4 l o01 x1 v152 v109))∧(∀ (l:List F0) (o02:J0) (x1:F0) (v153:Int) (v127:Int),Le (Mc fu l o02 x1 v153 v127) (Q5 l o02 x1 v153 v127)):=by
 induction fu with
 | zero=>exact ⟨fun _ _=>Le.none,fun _ _ _=>Le.none,fun _ _ _ _ _=>Le.none,fun _ _ _ _ _=>Le.none,fun _ _ _ _ _=>Le.none⟩
 | succ fu ih=>
  obtain ⟨ih0,ih1,ih2,ih3,ih4⟩:=ih
  refine ⟨fun l syntaxReport=>?_,fun l o03 v15=>?_,fun l o0 x1 x2 v151=>?_,fun l o01 x1 v152 v109=>?_,fun l o02 x1 v153 v127=>?_⟩
  ·rw [Y7,E3]
   repeat (first | exact Le.rfl | exact ih0 _ _ | exact ih1 _ _ _ | exact ih2 _ _ _ _ _ | exact ih3 _ _ _ _ _ | exact ih4 _ _ _ _ _ | exact Lf fu _ | exact B1 fu _ _ | exact Zd fu _ _ | exact Ec fu _ _ _ | exact F1 fu _ _ | exact O2 fu _ _ _ | exact A2 fu _ _ _ | exact I1 fu _ _ | exact F7 fu _ _ _ | exact R0 _ | refine Le.bind ?_ (fun _=>?_) | refine Le.ite ?_ ?_)
  ·rw [Jc,H4]
   repeat (first | exact Le.rfl | exact ih0 _ _ | exact ih1 _ _ _ | exact ih2 _ _ _ _ _ | exact ih3 _ _ _ _ _ | exact ih4 _ _ _ _ _ | exact Lf fu _ | exact B1 fu _ _ | exact Zd fu _ _ | exact Ec fu _ _ _ | exact F1 fu _ _ | exact O2 fu _ _ _ | exact A2 fu _ _ _ | exact I1 fu _ _ | exact F7 fu _ _ _ | exact R0 _ | refine Le.bind ?_ (fun _=>?_) | refine Le.ite ?_ ?_)
  ·rw [Kc,P5]
   repeat (first | exact Le.rfl | exact ih0 _ _ | exact ih1 _ _ _ | exact ih2 _ _ _ _ _ | exact ih3 _ _ _ _ _ | exact ih4 _ _ _ _ _ | exact Lf fu _ | exact B1 fu _ _ | exact Zd fu _ _ | exact Ec fu _ _ _ | exact F1 fu _ _ | exact O2 fu _ _ _ | exact A2 fu _ _ _ | exact I1 fu _ _ | exact F7 fu _ _ _ | exact R0 _ | refine Le.bind ?_ (fun _=>?_) | refine Le.ite ?_ ?_)
  ·rw [Lc,I4]
   repeat (first | exact Le.rfl | exact ih0 _ _ | exact ih1 _ _ _ | exact ih2 _ _ _ _ _ | exact ih3 _ _ _ _ _ | exact ih4 _ _ _ _ _ | exact Lf fu _ | exact B1 fu _ _ | exact Zd fu _ _ | exact Ec fu _ _ _ | exact F1 fu _ _ | exact O2 fu _ _ _ | exact A2 fu _ _ _ | exact I1 fu _ _ | exact F7 fu _ _ _ | exact R0 _ | refine Le.bind ?_ (fun _=>?_) | refine Le.ite ?_ ?_)
  ·rw [Mc,Q5]
   repeat (first | exact Le.rfl | exact ih0 _ _ | exact ih1 _ _ _ | exact ih2 _ _ _ _ _ | exact ih3 _ _ _ _ _ | exact ih4 _ _ _ _ _ | exact Lf fu _ | exact B1 fu _ _ | exact Zd fu _ _ | exact Ec fu _ _ _ | exact F1 fu _ _ | exact O2 fu _ _ _ | exact A2 fu _ _ _ | exact I1 fu _ _ | exact F7 fu _ _ _ | exact R0 _ | refine Le.bind ?_ (fun _=>?_) | refine Le.ite ?_ ?_)
theorem Hy (fu:Nat)(l:List F0)(syntaxReport:J0):Le (Y7 fu l syntaxReport) (E3 l syntaxReport):=(Sw fu).1 l syntaxReport
def Jk (fu:Nat)(p:Q0):Option J0:=
 Y7 fu p.Decls (J0.mk 0 0 false false false)>>=fun x1=>
 X5 fu p.Body 1 x1>>=fun x2=>
 some x2
theorem Dt (fu:Nat)(p:Q0):Le (Jk fu p) (Ma p):=by
 unfold Jk Ma
 repeat (first | exact Le.rfl | exact Hy fu _ _ | exact F7 fu _ _ _ | exact R0 _ | refine Le.bind ?_ (fun _=>?_) | refine Le.ite ?_ ?_)
def Mq (fu:Nat)(p:Q0):Option Int:=
 Jk fu p>>=fun x1=>
 Yb fu x1>>=fun x2=>
 some x2
theorem D19 (fu:Nat)(p:Q0):Le (Mq fu p) (Df p):=by
 unfold Mq Df
 repeat (first | exact Le.rfl | exact Dt fu _ | exact Vj fu _ | exact R0 _ | refine Le.bind ?_ (fun _=>?_) | refine Le.ite ?_ ?_)
mutual
def M5:Nat→D0→Str→Option Str
 | 0,_,_=>none
 | fu+1,t,b=>
  if (t.Kind == 0)=true then
   I0 [98,111,111,108] b>>=fun x1=>
   some x1.2
  else
   if (t.Kind == 1)=true then
    Eg t.Low>>=fun x2=>
    if (decide (4+x2.length≤maxLen))=true then
     if (decide (([105,110,116,91]++x2).length+2≤maxLen))=true then
      Eg t.High>>=fun x3=>
      if (decide ((([105,110,116,91]++x2)++[46,46]).length+x3.length≤maxLen))=true then
       if (decide (((([105,110,116,91]++x2)++[46,46])++x3).length+1≤maxLen))=true then
        I0 (((([105,110,116,91]++x2)++[46,46])++x3)++[93]) b>>=fun x4=>
        some x4.2
       else none
      else none
     else none
    else none
   else
    if (t.Kind == 2)=true then
     Eg t.Size>>=fun x5=>
     if (decide (6+x5.length≤maxLen))=true then
      if (decide (([97,114,114,97,121,32]++x5).length+4≤maxLen))=true then
       I0 (([97,114,114,97,121,32]++x5)++[32,111,102,32]) b>>=fun x6=>
       idx t.Of 0>>=fun x7=>
       M5 fu x7 x6.2>>=fun x14=>
       some x14
      else none
     else none
    else
     if (t.Kind == 3)=true then
      I0 [114,101,99,111,114,100,32,123] b>>=fun x8=>
      Md fu t x8.2 0
     else
      if (t.Kind == 4)=true then
       I0 t.Name b>>=fun x9=>
       some x9.2
      else
       some b
def Md:Nat→D0→Str→Int→Option Str
 | 0,_,_,_=>none
 | fu+1,t,b1,v56=>
  if (decide (v56 < ((t.Of).length:Int)))=true then
   idx t.Of v56>>=fun x10=>
   if (decide (v56 > 0))=true then
    I0 [44,32] b1>>=fun x16=>
    Nd fu t x16.2 x10 v56 v56
   else
    Nd fu t b1 x10 v56 v56
  else
   I0 [125] b1>>=fun x13=>
   some x13.2
def Nd:Nat→D0→Str→D0→Int→Int→Option Str
 | 0,_,_,_,_,_=>none
 | fu+1,t,b11,x10,i,v561=>
  idx t.Names i>>=fun x11=>
  if (decide (x11.length+2≤maxLen))=true then
   I0 (x11++[58,32]) b11>>=fun x12=>
   M5 fu x10 x12.2>>=fun x15=>
   Md fu t x15 (IntKind.i64.wrap (v561+1))
  else none
end
theorem Iy (fu:Nat):(∀ (t:D0) (b:Str),Le (M5 fu t b) (M3 t b))∧(∀ (t:D0) (b1:Str) (v56:Int),Le (Md fu t b1 v56) (Na t b1 v56))∧(∀ (t:D0) (b11:Str) (x10:D0) (i:Int) (v561:Int),Le (Nd fu t b11 x10 i v561) (Oa t b11 x10 i v561)):=by
 induction fu with
 | zero=>exact ⟨fun _ _=>Le.none,fun _ _ _=>Le.none,fun _ _ _ _ _=>Le.none⟩
 | succ fu ih=>
  obtain ⟨ih0,ih1,ih2⟩:=ih
  refine ⟨fun t b=>?_,fun t b1 v56=>?_,fun t b11 x10 i v561=>?_⟩
  ·rw [M5,M3]
   repeat (first | exact Le.rfl | exact ih0 _ _ | exact ih1 _ _ _ | exact ih2 _ _ _ _ _ | exact R0 _ | refine Le.bind ?_ (fun _=>?_) | refine Le.ite ?_ ?_)
  ·rw [Md,Na]
   repeat (first | exact Le.rfl | exact ih0 _ _ | exact ih1 _ _ _ | exact ih2 _ _ _ _ _ | exact R0 _ | refine Le.bind ?_ (fun _=>?_) | refine Le.ite ?_ ?_)
  ·rw [Nd,Oa]
   repeat (first | exact Le.rfl | exact ih0 _ _ | exact ih1 _ _ _ | exact ih2 _ _ _ _ _ | exact R0 _ | refine Le.bind ?_ (fun _=>?_) | refine Le.ite ?_ ?_)
theorem Zf (fu:Nat)(t:D0)(b:Str):Le (M5 fu t b) (M3 t b):=(Iy fu).1 t b
def K4 (fu:Nat)(name:Str)(t:D0)(b:Str):Option Str:=
 if (decide (name.length+2≤maxLen))=true then
  I0 (name++[58,32]) b>>=fun x1=>
  M5 fu t x1.2>>=fun x2=>
  some x2
 else none
theorem Od (fu:Nat)(name:Str)(t:D0)(b:Str):Le (K4 fu name t b) (K3 name t b):=by
 unfold K4 K3
 repeat (first | exact Le.rfl | exact Zf fu _ _ | exact R0 _ | refine Le.bind ?_ (fun _=>?_) | refine Le.ite ?_ ?_)
def W8 (fu:Nat)(x2:Str)(value:Str):Option Str:=
 if (decide (3+value.length≤maxLen))=true then
  I0 ([32,61,32]++value) x2>>=fun x4=>
  I0 [59,10] x4.2>>=fun x5=>
  some x5.2
 else none
theorem Lp (fu:Nat)(x2:Str)(value:Str):Le (W8 fu x2 value) (Y4 x2 value):=by
 unfold W8 Y4
 repeat (first | exact Le.rfl | exact R0 _ | refine Le.bind ?_ (fun _=>?_) | refine Le.ite ?_ ?_)
def Lb (fu:Nat)(d:F0)(b:Str):Option Str:=
 I0 [118,97,114,32] b>>=fun x1=>
 K4 fu d.Name d.TypeV x1.2>>=fun x2=>
 if (d.Init != 0)=true then
  Eg d.Init>>=fun x3=>
  if (d.TypeV.Kind == 0)=true then
   W8 fu x2 [116,114,117,101]
  else
   W8 fu x2 x3
 else
  I0 [59,10] x2>>=fun x5=>
  some x5.2
theorem Vk (fu:Nat)(d:F0)(b:Str):Le (Lb fu d b) (M6 d b):=by
 unfold Lb M6
 repeat (first | exact Le.rfl | exact Od fu _ _ _ | exact Lp fu _ _ | exact R0 _ | refine Le.bind ?_ (fun _=>?_) | refine Le.ite ?_ ?_)
mutual
def M8:Nat→C0→Str→Int→Option Str
 | 0,_,_,_=>none
 | fu+1,s,b1,v163=>
  if (decide (v163 < ((s.Numbers).length:Int)))=true then
   idx s.Numbers v163>>=fun x25=>
   if (decide (v163 > 0))=true then
    I0 [44,32] b1>>=fun x28=>
    Nc fu s x28.2 x25 v163
   else
    Nc fu s b1 x25 v163
  else
   I0 [59] b1>>=fun x13=>
   some x13.2
def Nc:Nat→C0→Str→Int→Int→Option Str
 | 0,_,_,_,_=>none
 | fu+1,s,b11,x25,v1631=>
  Eg x25>>=fun x26=>
  I0 x26 b11>>=fun x27=>
  M8 fu s x27.2 (IntKind.i64.wrap (v1631+1))
end
theorem Es (fu:Nat):(∀ (s:C0) (b1:Str) (v163:Int),Le (M8 fu s b1 v163) (J4 s b1 v163))∧(∀ (s:C0) (b11:Str) (x25:Int) (v1631:Int),Le (Nc fu s b11 x25 v1631) (X9 s b11 x25 v1631)):=by
 induction fu with
 | zero=>exact ⟨fun _ _ _=>Le.none,fun _ _ _ _=>Le.none⟩
 | succ fu ih=>
  obtain ⟨ih0,ih1⟩:=ih
  refine ⟨fun s b1 v163=>?_,fun s b11 x25 v1631=>?_⟩
  ·rw [M8,J4]
   repeat (first | exact Le.rfl | exact ih0 _ _ _ | exact ih1 _ _ _ _ | exact R0 _ | refine Le.bind ?_ (fun _=>?_) | refine Le.ite ?_ ?_)
  ·rw [Nc,X9]
   repeat (first | exact Le.rfl | exact ih0 _ _ _ | exact ih1 _ _ _ _ | exact R0 _ | refine Le.bind ?_ (fun _=>?_) | refine Le.ite ?_ ?_)
theorem Mb (fu:Nat)(s:C0)(b1:Str)(v163:Int):Le (M8 fu s b1 v163) (J4 s b1 v163):=(Es fu).1 s b1 v163
mutual
def H7:Nat→(List C0)→Str→Str→Option Str
 | 0,_,_,_=>none
 | fu+1,l,margin,b=>
  Nb fu l margin b 0
def Nb:Nat→(List C0)→Str→Str→Int→Option Str
 | 0,_,_,_,_=>none
 | fu+1,l,margin,b1,v10=>
  if (decide (v10 < ((l).length:Int)))=true then
   idx l v10>>=fun x1=>
   I0 margin b1>>=fun x2=>
   Wj fu x1 margin x2.2>>=fun x3=>
   I0 [10] x3>>=fun x4=>
   Nb fu l margin x4.2 (IntKind.i64.wrap (v10+1))
  else
   some b1
def Wj:Nat→C0→Str→Str→Option Str
 | 0,_,_,_=>none
 | fu+1,s,margin,b=>
  if (s.Verb == 5)=true then
   I0 [105,102,32] b>>=fun x1=>
   C1 fu s.Value x1.2>>=fun x2=>
   I7 fu s.Then margin x2>>=fun x29=>
   if (decide (((s.Else).length:Int) > 0))=true then
    I0 [32,101,108,115,101] x29>>=fun x30=>
    I7 fu s.Else margin x30.2>>=fun x31=>
    some x31
   else
    some x29
  else
   if (s.Verb == 6)=true then
    I0 [119,104,105,108,101,32] b>>=fun x3=>
    C1 fu s.Value x3.2>>=fun x4=>
    Eg s.NV>>=fun x5=>
    if (decide (7+x5.length≤maxLen))=true then
     I0 ([32,108,105,109,105,116,32]++x5) x4>>=fun x6=>
     I7 fu s.Then margin x6.2>>=fun x32=>
     some x32
    else none
   else
    if (s.Verb == 7)=true then
     if (decide (4+s.Name.length≤maxLen))=true then
      if (decide (([102,111,114,32]++s.Name).length+3≤maxLen))=true then
       Eg s.Low>>=fun x7=>
       if (decide ((([102,111,114,32]++s.Name)++[32,61,32]).length+x7.length≤maxLen))=true then
        if (decide (((([102,111,114,32]++s.Name)++[32,61,32])++x7).length+4≤maxLen))=true then
         Eg s.High>>=fun x8=>
         if (decide ((((([102,111,114,32]++s.Name)++[32,61,32])++x7)++[32,116,111,32]).length+x8.length≤maxLen))=true then
          I0 ((((([102,111,114,32]++s.Name)++[32,61,32])++x7)++[32,116,111,32])++x8) b>>=fun x9=>
          I7 fu s.Then margin x9.2>>=fun x33=>
          some x33
         else none
        else none
       else none
      else none
     else none
    else
     if (s.Verb == 0)=true then
      C1 fu s.Place b>>=fun x10=>
      I0 [32,61,32] x10>>=fun x11=>
      C1 fu s.Value x11.2>>=fun x12=>
      I0 [59] x12>>=fun x13=>
      some x13.2
     else
      if (s.Verb == 1)=true then
       C1 fu s.Place b>>=fun x14=>
       if (decide (8+s.Name.length≤maxLen))=true then
        if (decide (([32,61,32,99,97,108,108,32]++s.Name).length+1≤maxLen))=true then
         I0 (([32,61,32,99,97,108,108,32]++s.Name)++[40]) x14>>=fun x15=>
         Kb fu s.Args x15.2>>=fun x16=>
         I0 [41] x16>>=fun x17=>
         I0 [59] x17.2>>=fun x13=>
         some x13.2
        else none
       else none
      else
       if (s.Verb == 2)=true then
        C1 fu s.Place b>>=fun x18=>
        if (decide (11+s.Name.length≤maxLen))=true then
         I0 ([32,61,32,114,101,108,101,97,115,101,32]++s.Name) x18>>=fun x19=>
         I0 [59] x19.2>>=fun x13=>
         some x13.2
        else none
       else
        if (s.Verb == 3)=true then
         I0 [111,117,116,112,117,116,32] b>>=fun x20=>
         C1 fu s.Value x20.2>>=fun x21=>
         I0 [59] x21>>=fun x13=>
         some x13.2
        else
         if (s.Verb == 4)=true then
          Eg s.NV>>=fun x22=>
          if (decide (5+x22.length≤maxLen))=true then
           I0 ([119,97,105,116,32]++x22) b>>=fun x23=>
           I0 [59] x23.2>>=fun x13=>
           some x13.2
          else none
         else
          if (s.Verb == 8)=true then
           I0 [115,101,116,116,108,101,32] b>>=fun x24=>
           M8 fu s x24.2 0
          else
           I0 [59] b>>=fun x13=>
           some x13.2
def I7:Nat→(List C0)→Str→Str→Option Str
 | 0,_,_,_=>none
 | fu+1,l,margin,b=>
  I0 [32,123,10] b>>=fun x1=>
  if (decide (margin.length+1≤maxLen))=true then
   H7 fu l (margin++[9]) x1.2>>=fun x2=>
   if (decide (margin.length+1≤maxLen))=true then
    I0 (margin++[125]) x2>>=fun x3=>
    some x3.2
   else none
  else none
end
theorem Tv (fu:Nat):(∀ (l:List C0) (margin:Str) (b:Str),Le (H7 fu l margin b) (C4 l margin b))∧(∀ (l:List C0) (margin:Str) (b1:Str) (v10:Int),Le (Nb fu l margin b1 v10) (A9 l margin b1 v10))∧(∀ (s:C0) (margin:Str) (b:Str),Le (Wj fu s margin b) (Nh s margin b))∧(∀ (l:List C0) (margin:Str) (b:Str),Le (I7 fu l margin b) (S6 l margin b)):=by
 induction fu with
 | zero=>exact ⟨fun _ _ _=>Le.none,fun _ _ _ _=>Le.none,fun _ _ _=>Le.none,fun _ _ _=>Le.none⟩
 | succ fu ih=>
  obtain ⟨ih0,ih1,ih2,ih3⟩:=ih
  refine ⟨fun l margin b=>?_,fun l margin b1 v10=>?_,fun s margin b=>?_,fun l margin b=>?_⟩
  ·rw [H7,C4]
   repeat (first | exact Le.rfl | exact ih0 _ _ _ | exact ih1 _ _ _ _ | exact ih2 _ _ _ | exact ih3 _ _ _ | exact R5 fu _ _ | exact Re fu _ _ | exact Mb fu _ _ _ | exact R0 _ | refine Le.bind ?_ (fun _=>?_) | refine Le.ite ?_ ?_)
  ·rw [Nb,A9]
   repeat (first | exact Le.rfl | exact ih0 _ _ _ | exact ih1 _ _ _ _ | exact ih2 _ _ _ | exact ih3 _ _ _ | exact R5 fu _ _ | exact Re fu _ _ | exact Mb fu _ _ _ | exact R0 _ | refine Le.bind ?_ (fun _=>?_) | refine Le.ite ?_ ?_)
  ·rw [Wj,Nh]
   repeat (first | exact Le.rfl | exact ih0 _ _ _ | exact ih1 _ _ _ _ | exact ih2 _ _ _ | exact ih3 _ _ _ | exact R5 fu _ _ | exact Re fu _ _ | exact Mb fu _ _ _ | exact R0 _ | refine Le.bind ?_ (fun _=>?_) | refine Le.ite ?_ ?_)
  ·rw [I7,S6]
   repeat (first | exact Le.rfl | exact ih0 _ _ _ | exact ih1 _ _ _ _ | exact ih2 _ _ _ | exact ih3 _ _ _ | exact R5 fu _ _ | exact Re fu _ _ | exact Mb fu _ _ _ | exact R0 _ | refine Le.bind ?_ (fun _=>?_) | refine Le.ite ?_ ?_)
theorem Gm (fu:Nat)(l:List C0)(margin:Str)(b:Str):Le (H7 fu l margin b) (C4 l margin b):=(Tv fu).1 l margin b
def Y5:Nat→F0→Str→Int→Option Str
 | 0,_,_,_=>none
 | fu+1,d,b12,v52=>
  if (decide (v52 < ((d.Vars).length:Int)))=true then
   idx d.Vars v52>>=fun x8=>
   I0 [9] b12>>=fun x9=>
   Lb fu x8 x9.2>>=fun x10=>
   Y5 fu d x10 (IntKind.i64.wrap (v52+1))
  else
   H7 fu d.Body [9] b12>>=fun x11=>
   I0 [9,114,101,116,117,114,110,32] x11>>=fun x12=>
   C1 fu d.Value x12.2>>=fun x13=>
   I0 [59,10,125,10] x13>>=fun x14=>
   some x14.2
theorem Yo (fu:Nat):(∀ (d:F0) (b12:Str) (v52:Int),Le (Y5 fu d b12 v52) (Y2 d b12 v52)):=by
 induction fu with
 | zero=>exact fun _ _ _=>Le.none
 | succ fu ih=>
  have ih0:=ih
  refine fun d b12 v52=>?_
  ·rw [Y5,Y2]
   repeat (first | exact Le.rfl | exact ih0 _ _ _ | exact Vk fu _ _ | exact Gm fu _ _ _ | exact R5 fu _ _ | exact R0 _ | refine Le.bind ?_ (fun _=>?_) | refine Le.ite ?_ ?_)
theorem Qi (fu:Nat)(d:F0)(b12:Str)(v52:Int):Le (Y5 fu d b12 v52) (Y2 d b12 v52):=(Yo fu) d b12 v52
mutual
def Z5:Nat→F0→Str→Int→Option Str
 | 0,_,_,_=>none
 | fu+1,d,b1,v19=>
  if (decide (v19 < ((d.Params).length:Int)))=true then
   idx d.Params v19>>=fun x2=>
   if (decide (v19 > 0))=true then
    I0 [44,32] b1>>=fun x4=>
    X8 fu d x4.2 x2 v19
   else
    X8 fu d b1 x2 v19
  else
   I0 [41,58,32] b1>>=fun x5=>
   M5 fu d.TypeV x5.2>>=fun x6=>
   I0 [32,123,10] x6>>=fun x7=>
   Y5 fu d x7.2 0
def X8:Nat→F0→Str→F0→Int→Option Str
 | 0,_,_,_,_=>none
 | fu+1,d,b11,x2,v191=>
  K4 fu x2.Name x2.TypeV b11>>=fun x3=>
  Z5 fu d x3 (IntKind.i64.wrap (v191+1))
end
theorem Zo (fu:Nat):(∀ (d:F0) (b1:Str) (v19:Int),Le (Z5 fu d b1 v19) (Z2 d b1 v19))∧(∀ (d:F0) (b11:Str) (x2:F0) (v191:Int),Le (X8 fu d b11 x2 v191) (X6 d b11 x2 v191)):=by
 induction fu with
 | zero=>exact ⟨fun _ _ _=>Le.none,fun _ _ _ _=>Le.none⟩
 | succ fu ih=>
  obtain ⟨ih0,ih1⟩:=ih
  refine ⟨fun d b1 v19=>?_,fun d b11 x2 v191=>?_⟩
  ·rw [Z5,Z2]
   repeat (first | exact Le.rfl | exact ih0 _ _ _ | exact ih1 _ _ _ _ | exact Zf fu _ _ | exact Qi fu _ _ _ | exact Od fu _ _ _ | exact R0 _ | refine Le.bind ?_ (fun _=>?_) | refine Le.ite ?_ ?_)
  ·rw [X8,X6]
   repeat (first | exact Le.rfl | exact ih0 _ _ _ | exact ih1 _ _ _ _ | exact Zf fu _ _ | exact Qi fu _ _ _ | exact Od fu _ _ _ | exact R0 _ | refine Le.bind ?_ (fun _=>?_) | refine Le.ite ?_ ?_)
theorem Mp (fu:Nat)(d:F0)(b1:Str)(v19:Int):Le (Z5 fu d b1 v19) (Z2 d b1 v19):=(Zo fu).1 d b1 v19
def Zg (fu:Nat)(d:F0)(b:Str):Option Str:=
 if (decide (5+d.Name.length≤maxLen))=true then
  if (decide (([102,117,110,99,32]++d.Name).length+1≤maxLen))=true then
   I0 (([102,117,110,99,32]++d.Name)++[40]) b>>=fun x1=>
   Z5 fu d x1.2 0
  else none
 else none
theorem Fs (fu:Nat)(d:F0)(b:Str):Le (Zg fu d b) (B9 d b):=by
 unfold Zg B9
 repeat (first | exact Le.rfl | exact Mp fu _ _ _ | exact R0 _ | refine Le.bind ?_ (fun _=>?_) | refine Le.ite ?_ ?_)
def Xj (fu:Nat)(d:F0)(b:Str):Option Str:=
 if (d.Kind == 4)=true then
  Lb fu d b>>=fun x1=>
  some x1
 else
  if (d.Kind == 6)=true then
   Zg fu d b>>=fun x2=>
   some x2
  else
   if (d.Kind == 0)=true then
    if (decide (5+d.Name.length≤maxLen))=true then
     if (decide (([116,121,112,101,32]++d.Name).length+3≤maxLen))=true then
      I0 (([116,121,112,101,32]++d.Name)++[32,61,32]) b>>=fun x3=>
      M5 fu d.TypeV x3.2>>=fun x4=>
      I0 [59,10] x4>>=fun x5=>
      some x5.2
     else none
    else none
   else
    if (d.Kind == 1)=true then
     I0 [115,101,99,114,101,116,32] b>>=fun x6=>
     K4 fu d.Name d.TypeV x6.2>>=fun x7=>
     I0 [59,10] x7>>=fun x5=>
     some x5.2
    else
     if (d.Kind == 2)=true then
      I0 [112,117,98,108,105,99,32] b>>=fun x8=>
      K4 fu d.Name d.TypeV x8.2>>=fun x9=>
      I0 [59,10] x9>>=fun x5=>
      some x5.2
     else
      if (d.Kind == 3)=true then
       I0 [114,97,110,100,111,109,32] b>>=fun x10=>
       K4 fu d.Name d.TypeV x10.2>>=fun x11=>
       I0 [59,10] x11>>=fun x5=>
       some x5.2
      else
       if (d.Kind == 5)=true then
        I0 [104,97,116,99,104,32] b>>=fun x12=>
        K4 fu d.Name d.TypeV x12.2>>=fun x13=>
        I0 [32,61,32] x13>>=fun x14=>
        C1 fu d.Value x14.2>>=fun x15=>
        I0 [59,10] x15>>=fun x5=>
        some x5.2
       else
        I0 [59,10] b>>=fun x5=>
        some x5.2
theorem Jy (fu:Nat)(d:F0)(b:Str):Le (Xj fu d b) (Xd d b):=by
 unfold Xj Xd
 repeat (first | exact Le.rfl | exact Vk fu _ _ | exact Fs fu _ _ | exact Zf fu _ _ | exact Od fu _ _ _ | exact R5 fu _ _ | exact R0 _ | refine Le.bind ?_ (fun _=>?_) | refine Le.ite ?_ ?_)
def Pg:Nat→Q0→Str→Int→Option (Str×Int)
 | 0,_,_,_=>none
 | fu+1,p,b2,v18=>
  if (decide (v18 < ((p.Decls).length:Int)))=true then
   idx p.Decls v18>>=fun x2=>
   Xj fu x2 b2>>=fun x3=>
   Pg fu p x3 (IntKind.i64.wrap (v18+1))
  else
   I0 [98,101,103,105,110,10] b2>>=fun x4=>
   H7 fu p.Body [9] x4.2>>=fun x5=>
   I0 [101,110,100,10] x5>>=fun x6=>
   Yf fu x6.2>>=fun x7=>
   some (x7.1,x7.2)
theorem H13 (fu:Nat):(∀ (p:Q0) (b2:Str) (v18:Int),Le (Pg fu p b2 v18) (E9 p b2 v18)):=by
 induction fu with
 | zero=>exact fun _ _ _=>Le.none
 | succ fu ih=>
  have ih0:=ih
  refine fun p b2 v18=>?_
  ·rw [Pg,E9]
   repeat (first | exact Le.rfl | exact ih0 _ _ _ | exact Jy fu _ _ | exact Gm fu _ _ _ | exact Dn fu _ | exact R0 _ | refine Le.bind ?_ (fun _=>?_) | refine Le.ite ?_ ?_)
theorem W14 (fu:Nat)(p:Q0)(b2:Str)(v18:Int):Le (Pg fu p b2 v18) (E9 p b2 v18):=(H13 fu) p b2 v18
def Nq (fu:Nat)(p:Q0):Option (Str×Int):=
 Mq fu p>>=fun x1=>
 if (x1 != 0)=true then
  some ([],x1)
 else
  Pg fu p [] 0
theorem E19 (fu:Nat)(p:Q0):Le (Nq fu p) (Ll p):=by
 unfold Nq Ll
 repeat (first | exact Le.rfl | exact D19 fu _ | exact W14 fu _ _ _ | exact R0 _ | refine Le.bind ?_ (fun _=>?_) | refine Le.ite ?_ ?_)
def Gs (fu:Nat)(p:Q0):Option (Int×Int):=
 Jk fu p>>=fun x1=>
 Yb fu x1>>=fun x2=>
 if (x2 != 0)=true then
  some (0,x2)
 else
  some (x1.nodes,0)
theorem K1a (fu:Nat)(p:Q0):Le (Gs fu p) (Tm p):=by
 unfold Gs Tm
 repeat (first | exact Le.rfl | exact Dt fu _ | exact Vj fu _ | exact R0 _ | refine Le.bind ?_ (fun _=>?_) | refine Le.ite ?_ ?_)
def T11 (fu:Nat):Option Bool:=
 Cn fu 1>>=fun x1=>
 Cn fu 2>>=fun x2=>
 Wb fu 8 [x1,x2]>>=fun x3=>
 Aa fu [120]>>=fun x4=>
 Wb fu 6 [x4]>>=fun x5=>
 Wb fu 10 [x3,x5]>>=fun x6=>
 Kf fu x6>>=fun x7=>
 Aa fu [97]>>=fun x8=>
 Aa fu [98]>>=fun x9=>
 Aa fu [99]>>=fun x10=>
 Wb fu 9 [x9,x10]>>=fun x11=>
 Wb fu 9 [x8,x11]>>=fun x12=>
 Kf fu x12>>=fun x13=>
 Aa fu [97]>>=fun x14=>
 Aa fu [98]>>=fun x15=>
 Wb fu 9 [x14,x15]>>=fun x16=>
 Aa fu [99]>>=fun x17=>
 Wb fu 9 [x16,x17]>>=fun x18=>
 Kf fu x18>>=fun x19=>
 Aa fu [112,105,110]>>=fun x20=>
 Nq fu (Q0.mk [(F0.mk 1 [112,105,110] (D0.mk 1 0 9 0 [] [] []) 0 (A0.mk 0 0 [] []) [] [] []),(F0.mk 4 [120] (D0.mk 0 0 0 0 [] [] []) 1 (A0.mk 0 0 [] []) [] [] [])] [(C0.mk 3 (A0.mk 0 0 [] []) x20 [] [] 0 0 0 [] [] [])])>>=fun x21=>
 Gs fu (Q0.mk [(F0.mk 1 [112,105,110] (D0.mk 1 0 9 0 [] [] []) 0 (A0.mk 0 0 [] []) [] [] []),(F0.mk 4 [120] (D0.mk 0 0 0 0 [] [] []) 1 (A0.mk 0 0 [] []) [] [] [])] [(C0.mk 3 (A0.mk 0 0 [] []) x20 [] [] 0 0 0 [] [] [])])>>=fun x22=>
 if (bif (bif (bif (bif (bif (x7.2 != 0) then true else (x13.2 != 0)) then true else (x19.2 != 0)) then true else (x21.2 != 0)) then true else (x22.2 != 0)) then true else (x22.1 != 6))=true then
  some false
 else
  (if (bif (bif (bif (x7.1 == [40,49,32,43,32,50,41,32,42,32,45,120]) then (x13.1 == [97,32,45,32,40,98,32,45,32,99,41]) else false) then (x19.1 == [97,32,45,32,98,32,45,32,99]) else false) then (x21.1 == [115,101,99,114,101,116,32,112,105,110,58,32,105,110,116,91,48,46,46,57,93,59,10,118,97,114,32,120,58,32,98,111,111,108,32,61,32,116,114,117,101,59,10,98,101,103,105,110,10,9,111,117,116,112,117,116,32,112,105,110,59,10,101,110,100,10]) else false)=true then Cn fu (-1) else some default)>>=fun x23=>
  (if (bif (bif (bif (x7.1 == [40,49,32,43,32,50,41,32,42,32,45,120]) then (x13.1 == [97,32,45,32,40,98,32,45,32,99,41]) else false) then (x19.1 == [97,32,45,32,98,32,45,32,99]) else false) then (x21.1 == [115,101,99,114,101,116,32,112,105,110,58,32,105,110,116,91,48,46,46,57,93,59,10,118,97,114,32,120,58,32,98,111,111,108,32,61,32,116,114,117,101,59,10,98,101,103,105,110,10,9,111,117,116,112,117,116,32,112,105,110,59,10,101,110,100,10]) else false)=true then Ji fu x23 else some default)>>=fun x24=>
  some (bif (bif (bif (bif (x7.1 == [40,49,32,43,32,50,41,32,42,32,45,120]) then (x13.1 == [97,32,45,32,40,98,32,45,32,99,41]) else false) then (x19.1 == [97,32,45,32,98,32,45,32,99]) else false) then (x21.1 == [115,101,99,114,101,116,32,112,105,110,58,32,105,110,116,91,48,46,46,57,93,59,10,118,97,114,32,120,58,32,98,111,111,108,32,61,32,116,114,117,101,59,10,98,101,103,105,110,10,9,111,117,116,112,117,116,32,112,105,110,59,10,101,110,100,10]) else false) then (x24 == 3) else false)
theorem L1a (fu:Nat):Le (T11 fu ) (Ni ):=by
 unfold T11 Ni
 repeat (first | exact Le.rfl | exact U1d fu _ | exact B1c fu _ _ | exact C1c fu _ | exact F13 fu _ | exact E19 fu _ | exact K1a fu _ | exact Wp fu _ | exact R0 _ | refine Le.bind ?_ (fun _=>?_) | refine Le.ite ?_ ?_)
end Go.Proofs.YtbmlpamppbcdeaaGreatDoor

