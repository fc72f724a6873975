/- A part of the proof of ParserInverse. -/
import Derived.Test.YtmnhfbekncjnfaaGreatDoorDgB
import Derived.Test.YtmnhfbekncjnfaaGreatDoorAmB
set_option maxRecDepth 100000
set_option maxHeartbeats 4000000
set_option synthInstance.maxSize 20000
set_option linter.unusedVariables false
namespace Go.Proofs.YtmnhfbekncjnfaaGreatDoor
open Go.Am
mutual
def F6 (l:List B0):Option Bool:=
 W8 l 0
 partial_fixpoint
def W8 (l:List B0)(i:Int):Option Bool:=
 if (decide (i < ((l).length:Int)))=true then
  idx l i>>=fun x1=>
  Tf x1>>=fun x2=>
  (if (!(!x2))=true then C4 x1.Place else some default)>>=fun x3=>
  (if (!(bif (!x2) then true else (!x3)))=true then C4 x1.Value else some default)>>=fun x4=>
  (if (!(bif (bif (!x2) then true else (!x3)) then true else (!x4)))=true then F6 x1.Then else some default)>>=fun x5=>
  (if (!(bif (bif (bif (!x2) then true else (!x3)) then true else (!x4)) then true else (!x5)))=true then F6 x1.Else else some default)>>=fun x6=>
  if (bif (bif (bif (bif (!x2) then true else (!x3)) then true else (!x4)) then true else (!x5)) then true else (!x6))=true then
   some false
  else
   Rc l x1 i 0
 else
  some true
 partial_fixpoint
def Rc (l:List B0)(x1:B0)(i1:Int)(k:Int):Option Bool:=
 if (decide (k < ((x1.Args).length:Int)))=true then
  idx x1.Args k>>=fun x7=>
  C4 x7>>=fun x8=>
  if (!x8)=true then
   some false
  else
   Rc l x1 i1 (IntKind.i64.wrap (k+1))
 else
  W8 l (IntKind.i64.wrap (i1+1))
 partial_fixpoint
end
abbrev Mp (l:List B0)(res:Bool):Prop:=P0 C 99 [.d (.sl (B0.rows l))] [] (Ret [] (.d (.bool res)))
abbrev Rx (l:List B0)(i:Int)(res:Bool):Prop:=LM C 57 0 Tryz.f99 [1,0,1,4] [(0,.d (.sl (B0.rows l))),(3,.d (.int .i64 i))] [] (Ret [] (.d (.bool res)))
abbrev Sx (l:List B0)(x1:B0)(i1:Int)(k:Int)(res:Bool):Prop:=LM C 57 0 Tryz.f99 [1,0,1,4,5,1,0,4,1,1,1,4] [(0,.d (.sl (B0.rows l))),(3,.d (.int .i64 i1)),(4,.ref 0 0),(5,.d (.int .i64 k))] [.row (B0.cells x1) 144] (Ret [] (.d (.bool res)))
theorem Cz:(∀ l res,F6 l=some res→Mp l res)∧(∀ l i res,W8 l i=some res→Rx l i res)∧(∀ l x1 i1 k res,Rc l x1 i1 k=some res→Sx l x1 i1 k res):=by
 refine F6.mutual_partial_correctness _ _ _ ?_ ?_ ?_
 ·intro g1 ih1 l res hh
  exact P0.intro hC Tryz.func99 rfl rfl rfl (t' rfl (S' (t' rfl (bk' (fq (ih1 _ _ _ hh) rfl)))))
 ·intro g0 g2 ih0 ih2 l i res hh
  refine X0.unroll (S' (p' 2 rfl (qe' rfl trivial (B0.lenA _) (e' rfl (ci' rfl hh (fun hh=>?_) (fun hh=>?_))))))
  ·obtain ⟨x1,hx1,hh⟩:=bs' hh
   obtain ⟨x2,hx2,hh⟩:=bs' hh
   obtain ⟨x3,hx3,hh⟩:=bs' hh
   obtain ⟨x4,hx4,hh⟩:=bs' hh
   obtain ⟨x5,hx5,hh⟩:=bs' hh
   obtain ⟨x6,hx6,hh⟩:=bs' hh
   refine sk' (S' (bk' (p' 2 rfl (i' rfl (Z0 hx1) (B0.idx hx1) rfl (q' rfl (F0.nf hC rfl (F0.s hC rfl (n' (S' (sg' 27 rfl (a0' rfl (AG.c rfl rfl (fun _=>trivial) (fun _=>L12 hx2) (G' 3 rfl ?_)))))))))))))
   refine a1' rfl (AG.c rfl rfl (fun hg=>⟨hg,trivial⟩) (fun hw=>Zf (V1 hw hx3)) (a1' rfl (po' rfl (G' 2 rfl (a1' rfl (AG.c rfl rfl (fun hg=>⟨hg,trivial⟩) (fun hw=>Zf (V1 hw hx4)) (a1' rfl (po' rfl (G' 2 rfl (a1' rfl (AG.c rfl rfl (fun hg=>⟨hg,trivial⟩) (fun hw=>ih0 _ _ (V1 hw hx5)) (a1' rfl (po' rfl ?_)))))))))))))
   refine G' 2 rfl (a1' rfl (AG.c rfl rfl (fun hg=>⟨hg,trivial⟩) (fun hw=>ih0 _ _ (V1 hw hx6)) (a1' rfl (po' rfl (an' (n' (ci' rfl hh (fun hh=>?_) (fun hh=>?_))))))))
   ·cases hh
    exact t' rfl (re' (rq rfl))
   exact sk' (t' rfl (bk' (fq (ih2 _ _ _ _ _ hh) rfl)))
  cases hh
  exact ex' (t' rfl (re' (rq rfl)))
 ·intro g1 g2 ih1 ih2 l x1 i1 k res hh
  refine X0.unroll (S' (p' 3 rfl (qe' rfl trivial (A0.lenA _) (e' rfl (ci' rfl hh (fun hh=>?_) (fun hh=>?_))))))
  ·obtain ⟨x7,hx7,hh⟩:=bs' hh
   obtain ⟨x8,hx8,hh⟩:=bs' hh
   refine sk' (S' (bk' (p' 3 rfl (i' rfl (Z0 hx7) (A0.idx hx7) rfl (q' rfl (cq (Zf hx8) rfl (e' rfl (ci' rfl hh (fun hh=>?_) (fun hh=>?_)))))))))
   ·cases hh
    exact t' rfl (re' (rq rfl))
   exact sk' (T' rfl (lq (ih2 _ _ _ _ _ hh) rfl))
  exact ex' (T' rfl (lq (ih1 _ _ _ hh) rfl))
theorem Jo {l res}(hh:F6 l=some res):Mp l res:=(Cz).1 _ _ hh
mutual
def C7 (l:List C0):Option Bool:=
 X8 l 0
 partial_fixpoint
def X8 (l:List C0)(i:Int):Option Bool:=
 if (decide (i < ((l).length:Int)))=true then
  idx l i>>=fun x1=>
  Te x1.Init>>=fun x2=>
  if (bif (!x2) then true else (bif (x1.TypeV.Kind == 0) then (bif (decide (x1.Init < 0)) then true else (decide (x1.Init > 1))) else false))=true then
   some false
  else
   D8 x1.TypeV>>=fun x3=>
   (if (!(!x3))=true then C4 x1.Value else some default)>>=fun x4=>
   (if (!(bif (!x3) then true else (!x4)))=true then C7 x1.Params else some default)>>=fun x5=>
   (if (!(bif (bif (!x3) then true else (!x4)) then true else (!x5)))=true then C7 x1.Vars else some default)>>=fun x6=>
   (if (!(bif (bif (bif (!x3) then true else (!x4)) then true else (!x5)) then true else (!x6)))=true then F6 x1.Body else some default)>>=fun x7=>
   if (bif (bif (bif (bif (!x3) then true else (!x4)) then true else (!x5)) then true else (!x6)) then true else (!x7))=true then
    some false
   else
    X8 l (IntKind.i64.wrap (i+1))
 else
  some true
 partial_fixpoint
end
abbrev Np (l:List C0)(res:Bool):Prop:=P0 C 98 [.d (.sl (C0.rows l))] [] (Ret [] (.d (.bool res)))
abbrev Tx (l:List C0)(i:Int)(res:Bool):Prop:=LM C 63 0 Tryz.f98 [1,0,1,4] [(0,.d (.sl (C0.rows l))),(3,.d (.int .i64 i))] [] (Ret [] (.d (.bool res)))
theorem Dz:(∀ l res,C7 l=some res→Np l res)∧(∀ l i res,X8 l i=some res→Tx l i res):=by
 refine C7.mutual_partial_correctness _ _ ?_ ?_
 ·intro g1 ih1 l res hh
  exact P0.intro hC Tryz.func98 rfl rfl rfl (t' rfl (S' (t' rfl (bk' (fq (ih1 _ _ _ hh) rfl)))))
 ·intro g0 g1 ih0 ih1 l i res hh
  refine X0.unroll (S' (p' 2 rfl (qe' rfl trivial (C0.lenA _) (e' rfl (ci' rfl hh (fun hh=>?_) (fun hh=>?_))))))
  ·obtain ⟨x1,hx1,hh⟩:=bs' hh
   obtain ⟨x2,hx2,hh⟩:=bs' hh
   refine sk' (S' (bk' (p' 2 rfl (i' rfl (Z0 hx1) (C0.idx hx1) rfl (q' rfl (F0.nf hC rfl (F0.s hC rfl (n' (S' (sg' 20 rfl (G' 2 rfl (AG.c rfl rfl (fun _=>trivial) (fun _=>Mh hx2) (G' 3 rfl ?_)))))))))))))
   refine a1' rfl (a1' rfl (a1' rfl (a1' rfl (a0' rfl (a1' rfl (a1' rfl (a1' rfl (a0' rfl (a1' rfl (a1' rfl (pO' rfl (pA' rfl (po' rfl ?_)))))))))))))
   refine an' (n' (ci' rfl hh (fun hh=>?_) (fun hh=>?_)))
   ·cases hh
    exact t' rfl (re' (rq rfl))
   obtain ⟨x3,hx3,hh⟩:=bs' hh
   obtain ⟨x4,hx4,hh⟩:=bs' hh
   obtain ⟨x5,hx5,hh⟩:=bs' hh
   obtain ⟨x6,hx6,hh⟩:=bs' hh
   obtain ⟨x7,hx7,hh⟩:=bs' hh
   refine sk' (sg' 28 rfl (G' 2 rfl (AG.c rfl rfl (fun _=>trivial) (fun _=>B12 hx3) (G' 3 rfl (a1' rfl (AG.c rfl rfl (fun hg=>⟨hg,trivial⟩) (fun hw=>Zf (V1 hw hx4)) (a1' rfl (po' rfl (G' 2 rfl (a1' rfl (AG.c rfl rfl (fun hg=>⟨hg,trivial⟩) (fun hw=>ih0 _ _ (V1 hw hx5)) (a1' rfl (po' rfl ?_)))))))))))))
   refine G' 2 rfl (a1' rfl (AG.c rfl rfl (fun hg=>⟨hg,trivial⟩) (fun hw=>ih0 _ _ (V1 hw hx6)) (a1' rfl (po' rfl (G' 2 rfl (a1' rfl (AG.c rfl rfl (fun hg=>⟨hg,trivial⟩) (fun hw=>Jo (V1 hw hx7)) (a1' rfl (po' rfl (an' (n' (ci' rfl hh (fun hh=>?_) (fun hh=>?_)))))))))))))
   ·cases hh
    exact t' rfl (re' (rq rfl))
   exact sk' (T' rfl (lq (ih1 _ _ _ hh) rfl))
  cases hh
  exact ex' (t' rfl (re' (rq rfl)))
theorem N10 {l res}(hh:C7 l=some res):Np l res:=(Dz).1 _ _ hh
def Bn (p:O0):Option Int:=
 Zm p>>=fun x1=>
 Va p.Decls>>=fun x2=>
 (if x2=true then N8 p.Body else some default)>>=fun x3=>
 L9 p.Decls>>=fun x4=>
 (if x4=true then L7 p.Body else some default)>>=fun x5=>
 C7 p.Decls>>=fun x6=>
 (if x6=true then F6 p.Body else some default)>>=fun x7=>
 Gk x1 (bif x2 then x3 else false) (bif x4 then x5 else false) (bif x6 then x7 else false)>>=fun x8=>
 some x8
theorem G1d {p res}(hh:Bn p=some res):P0 C 49 [.agg (O0.cells p)] [] (Ret [] (.d (.int .i64 res))):=by
 unfold Bn at hh
 obtain ⟨x1,hx1,hh⟩:=bs' hh
 obtain ⟨x2,hx2,hh⟩:=bs' hh
 obtain ⟨x3,hx3,hh⟩:=bs' hh
 obtain ⟨x4,hx4,hh⟩:=bs' hh
 obtain ⟨x5,hx5,hh⟩:=bs' hh
 obtain ⟨x6,hx6,hh⟩:=bs' hh
 obtain ⟨x7,hx7,hh⟩:=bs' hh
 obtain ⟨x8,hx8,hh⟩:=bs' hh
 cases hh
 refine P0.intro hC Tryz.func49 rfl rfl rfl (s' rfl rfl (F0.n hC rfl (e' rfl (S' (AEx.drawG hC 28 rfl rfl rfl (a0' rfl (AG.c rfl rfl (fun _=>trivial) (fun _=>E1d hx1) (G' 2 rfl (AG.c rfl rfl (fun _=>trivial) (fun _=>I16 hx2) (G' 2 rfl (a1' rfl (AG.c rfl rfl (fun hg=>⟨hg,trivial⟩) (fun hw=>Zs (V1 hw hx3)) (pa' rfl ?_)))))))))))))
 refine G' 2 rfl (AG.c rfl rfl (fun _=>trivial) (fun _=>V14 hx4) (G' 2 rfl (a1' rfl (AG.c rfl rfl (fun hg=>⟨hg,trivial⟩) (fun hw=>Kq (V1 hw hx5)) (pa' rfl (G' 2 rfl (AG.c rfl rfl (fun _=>trivial) (fun _=>N10 hx6) (G' 2 rfl (a1' rfl (AG.c rfl rfl (fun hg=>⟨hg,trivial⟩) (fun hw=>Jo (V1 hw hx7)) (pa' rfl ?_)))))))))))
 exact AG.c rfl rfl (fun _=>trivial) (fun _=>M19 hx8) (a0' rfl (an' (n' (re' (rq rfl)))))
mutual
def M7 (a:List B0)(b:List B0):Option Bool:=
 if (((a).length:Int) != ((b).length:Int))=true then
  some false
 else
  Cb a b 0
 partial_fixpoint
def Cb (a:List B0)(b:List B0)(i:Int):Option Bool:=
 if (decide (i < ((a).length:Int)))=true then
  idx a i>>=fun x1=>
  idx b i>>=fun x2=>
  if (bif (bif (bif (bif (bif (bif (x1.Verb != x2.Verb) then true else (!(x1.Name == x2.Name))) then true else (x1.NV != x2.NV)) then true else (x1.Low != x2.Low)) then true else (x1.High != x2.High)) then true else (((x1.Args).length:Int) != ((x2.Args).length:Int))) then true else (((x1.Numbers).length:Int) != ((x2.Numbers).length:Int)))=true then
   some false
  else
   Db a b x1 x2 i 0
 else
  some true
 partial_fixpoint
def Db (a:List B0)(b:List B0)(x1:B0)(x2:B0)(i1:Int)(k:Int):Option Bool:=
 if (decide (k < ((x1.Args).length:Int)))=true then
  idx x1.Args k>>=fun x3=>
  idx x2.Args k>>=fun x4=>
  Z3 x3 x4>>=fun x5=>
  if (!x5)=true then
   some false
  else
   Db a b x1 x2 i1 (IntKind.i64.wrap (k+1))
 else
  K8 a b x1 x2 i1 0
 partial_fixpoint
def K8 (a:List B0)(b:List B0)(x1:B0)(x2:B0)(i2:Int)(k1:Int):Option Bool:=
 if (decide (k1 < ((x1.Numbers).length:Int)))=true then
  idx x1.Numbers k1>>=fun x6=>
  idx x2.Numbers k1>>=fun x7=>
  if (x6 != x7)=true then
   some false
  else
   K8 a b x1 x2 i2 (IntKind.i64.wrap (k1+1))
 else
  Z3 x1.Place x2.Place>>=fun x8=>
  (if (!(!x8))=true then Z3 x1.Value x2.Value else some default)>>=fun x9=>
  (if (!(bif (!x8) then true else (!x9)))=true then M7 x1.Then x2.Then else some default)>>=fun x10=>
  (if (!(bif (bif (!x8) then true else (!x9)) then true else (!x10)))=true then M7 x1.Else x2.Else else some default)>>=fun x11=>
  if (bif (bif (bif (!x8) then true else (!x9)) then true else (!x10)) then true else (!x11))=true then
   some false
  else
   Cb a b (IntKind.i64.wrap (i2+1))
 partial_fixpoint
end
abbrev Dt (a:List B0)(b:List B0)(res:Bool):Prop:=P0 C 51 [.d (.sl (B0.rows a)),.d (.sl (B0.rows b))] [] (Ret [] (.d (.bool res)))
abbrev O10 (a:List B0)(b:List B0)(i:Int)(res:Bool):Prop:=LM C 147 0 Tryz.f51 [1,1,0,1,4] [(0,.d (.sl (B0.rows a))),(1,.d (.sl (B0.rows b))),(5,.d (.int .i64 i))] [] (Ret [] (.d (.bool res)))
abbrev P10 (a:List B0)(b:List B0)(x1:B0)(x2:B0)(i1:Int)(k:Int)(res:Bool):Prop:=LM C 147 0 Tryz.f51 [1,1,0,1,4,5,1,0,4,1,1,1,0,1,4] [(0,.d (.sl (B0.rows a))),(1,.d (.sl (B0.rows b))),(5,.d (.int .i64 i1)),(6,.ref 0 0),(7,.ref 1 0),(8,.d (.int .i64 k))] [.row (B0.cells x1) 144,.row (B0.cells x2) 144] (Ret [] (.d (.bool res)))
abbrev Q10 (a:List B0)(b:List B0)(x1:B0)(x2:B0)(i2:Int)(k1:Int)(res:Bool):Prop:=LM C 147 0 Tryz.f51 [1,1,0,1,4,5,1,0,4,1,1,1,1,0,1,4] [(0,.d (.sl (B0.rows a))),(1,.d (.sl (B0.rows b))),(5,.d (.int .i64 i2)),(6,.ref 0 0),(7,.ref 1 0),(9,.d (.int .i64 k1))] [.row (B0.cells x1) 144,.row (B0.cells x2) 144] (Ret [] (.d (.bool res)))
theorem M12:(∀ a b res,M7 a b=some res→Dt a b res)∧(∀ a b i res,Cb a b i=some res→O10 a b i res)∧(∀ a b x1 x2 i1 k res,Db a b x1 x2 i1 k=some res→P10 a b x1 x2 i1 k res)∧(∀ a b x1 x2 i2 k1 res,K8 a b x1 x2 i2 k1=some res→Q10 a b x1 x2 i2 k1 res):=by
 refine M7.mutual_partial_correctness _ _ _ _ ?_ ?_ ?_ ?_
 ·intro g1 ih1 a b res hh
  refine P0.intro hC Tryz.func51 rfl rfl rfl (t' rfl (S' (p' 1 rfl (qe' rfl trivial (B0.lenA _) (q' rfl (qe' rfl trivial (B0.lenA _) (e' rfl (ci' rfl hh (fun hh=>?_) (fun hh=>?_)))))))))
  ·cases hh
   exact t' rfl (re' (rq rfl))
  exact sk' (S' (t' rfl (bk' (fq (ih1 _ _ _ _ hh) rfl))))
 ·intro g2 ih2 a b i res hh
  refine X0.unroll (S' (p' 2 rfl (qe' rfl trivial (B0.lenA _) (e' rfl (ci' rfl hh (fun hh=>?_) (fun hh=>?_))))))
  ·obtain ⟨x1,hx1,hh⟩:=bs' hh
   obtain ⟨x2,hx2,hh⟩:=bs' hh
   refine sk' (S' (bk' (p' 2 rfl (i' rfl (Z0 hx1) (B0.idx hx1) rfl (q' rfl (F0.nf hC rfl (F0.s hC rfl (n' (p' 2 rfl (i' rfl (Z0 hx2) (B0.idx hx2) rfl (q' rfl (F0.nf hC rfl (F0.s hC rfl ?_)))))))))))))
   refine n' (S' (sg' 51 rfl (G' 7 rfl (a1' rfl (a0' rfl (a1' rfl (a2' rfl (po' rfl (G' 2 rfl (a1' rfl (a0' rfl (a1' rfl (a2' rfl ?_)))))))))))))
   refine po' rfl (G' 2 rfl (a1' rfl (a0' rfl (a1' rfl (a2' rfl (po' rfl (G' 2 rfl (a1' rfl (a0' rfl (a1' rfl (a2' rfl (po' rfl (G' 2 rfl ?_)))))))))))))
   refine a1' rfl (AG.qe hC rfl (fun hg=>⟨⟨hg,trivial⟩,trivial⟩) (A0.lenA _) (a0' rfl (a1' rfl (AG.qe hC rfl (fun hg=>⟨⟨hg,trivial⟩,trivial⟩) (A0.lenA _) (a2' rfl (po' rfl (G' 2 rfl (a1' rfl (AG.qe hC rfl (fun hg=>⟨⟨hg,trivial⟩,trivial⟩) (ei64.lenA _) (a0' rfl (a1' rfl (AG.qe hC rfl (fun hg=>⟨⟨hg,trivial⟩,trivial⟩) (ei64.lenA _) (a2' rfl ?_)))))))))))))
   refine po' rfl (an' (n' (ci' rfl hh (fun hh=>?_) (fun hh=>?_))))
   ·cases hh
    exact t' rfl (re' (rq rfl))
   exact sk' (S' (t' rfl (bk' (fq (ih2 _ _ _ _ _ _ _ hh) rfl))))
  cases hh
  exact ex' (t' rfl (re' (rq rfl)))
 ·intro g2 g3 ih2 ih3 a b x1 x2 i1 k res hh
  refine X0.unroll (S' (p' 3 rfl (qe' rfl trivial (A0.lenA _) (e' rfl (ci' rfl hh (fun hh=>?_) (fun hh=>?_))))))
  ·obtain ⟨x3,hx3,hh⟩:=bs' hh
   obtain ⟨x4,hx4,hh⟩:=bs' hh
   obtain ⟨x5,hx5,hh⟩:=bs' hh
   refine sk' (S' (bk' (S' (AEx.draw hC 12 rfl rfl rfl (O' 3 rfl (AQ.i hC rfl (Z0 hx3) (A0.idx hx3) rfl (O' 4 rfl (AQ.i hC rfl (Z0 hx4) (A0.idx hx4) rfl (Q' rfl (Qc' (Cc hx5) rfl rfl (E' rfl (n' (ci' rfl hh (fun hh=>?_) (fun hh=>?_))))))))))))))
   ·cases hh
    exact t' rfl (re' (rq rfl))
   exact sk' (T' rfl (lq (ih2 _ _ _ _ _ _ _ hh) rfl))
  exact ex' (S' (t' rfl (bk' (fq (ih3 _ _ _ _ _ _ _ hh) rfl))))
 ·intro g0 g1 g3 ih0 ih1 ih3 a b x1 x2 i2 k1 res hh
  refine X0.unroll (S' (p' 3 rfl (qe' rfl trivial (ei64.lenA _) (e' rfl (ci' rfl hh (fun hh=>?_) (fun hh=>?_))))))
  ·obtain ⟨x6,hx6,hh⟩:=bs' hh
   obtain ⟨x7,hx7,hh⟩:=bs' hh
   refine sk' (S' (bk' (S' (AEx.draw hC 11 rfl rfl rfl (O' 3 rfl (AQ.i hC rfl (Z0 hx6) (ei64.idx hx6) rfl (O' 4 rfl (AQ.i hC rfl (Z0 hx7) (ei64.idx hx7) rfl (E' rfl (n' (ci' rfl hh (fun hh=>?_) (fun hh=>?_))))))))))))
   ·cases hh
    exact t' rfl (re' (rq rfl))
   exact sk' (T' rfl (lq (ih3 _ _ _ _ _ _ _ hh) rfl))
  obtain ⟨x8,hx8,hh⟩:=bs' hh
  obtain ⟨x9,hx9,hh⟩:=bs' hh
  obtain ⟨x10,hx10,hh⟩:=bs' hh
  obtain ⟨x11,hx11,hh⟩:=bs' hh
  refine ex' (sg' 30 rfl (G' 4 rfl (AG.c rfl rfl (fun _=>trivial) (fun _=>Cc hx8) (G' 3 rfl (a1' rfl (a0' rfl (a1' rfl (AG.c rfl rfl (fun hg=>⟨hg,hg,trivial⟩) (fun hw=>Cc (V1 hw hx9)) (a1' rfl (po' rfl (G' 2 rfl (a1' rfl (a0' rfl ?_)))))))))))))
  refine a1' rfl (AG.c rfl rfl (fun hg=>⟨hg,hg,trivial⟩) (fun hw=>ih0 _ _ _ (V1 hw hx10)) (a1' rfl (po' rfl (G' 2 rfl (a1' rfl (a0' rfl (a1' rfl (AG.c rfl rfl (fun hg=>⟨hg,hg,trivial⟩) (fun hw=>ih0 _ _ _ (V1 hw hx11)) (a1' rfl (po' rfl (an' (n' (ci' rfl hh (fun hh=>?_) (fun hh=>?_))))))))))))))
  ·cases hh
   exact t' rfl (re' (rq rfl))
  exact sk' (T' rfl (lq (ih1 _ _ _ _ hh) rfl))
theorem Lq {a b res}(hh:M7 a b=some res):Dt a b res:=(M12).1 _ _ _ hh
mutual
def M9 (a:List C0)(b:List C0):Option Bool:=
 if (((a).length:Int) != ((b).length:Int))=true then
  some false
 else
  Eb a b 0
 partial_fixpoint
def Eb (a:List C0)(b:List C0)(i:Int):Option Bool:=
 if (decide (i < ((a).length:Int)))=true then
  idx a i>>=fun x1=>
  idx b i>>=fun x2=>
  (if (!(bif (bif (x1.Kind != x2.Kind) then true else (!(x1.Name == x2.Name))) then true else (x1.Init != x2.Init)))=true then M8 x1.TypeV x2.TypeV else some default)>>=fun x3=>
  (if (!(bif (bif (bif (x1.Kind != x2.Kind) then true else (!(x1.Name == x2.Name))) then true else (x1.Init != x2.Init)) then true else (!x3)))=true then Z3 x1.Value x2.Value else some default)>>=fun x4=>
  (if (!(bif (bif (bif (bif (x1.Kind != x2.Kind) then true else (!(x1.Name == x2.Name))) then true else (x1.Init != x2.Init)) then true else (!x3)) then true else (!x4)))=true then M9 x1.Params x2.Params else some default)>>=fun x5=>
  (if (!(bif (bif (bif (bif (bif (x1.Kind != x2.Kind) then true else (!(x1.Name == x2.Name))) then true else (x1.Init != x2.Init)) then true else (!x3)) then true else (!x4)) then true else (!x5)))=true then M9 x1.Vars x2.Vars else some default)>>=fun x6=>
  (if (!(bif (bif (bif (bif (bif (bif (x1.Kind != x2.Kind) then true else (!(x1.Name == x2.Name))) then true else (x1.Init != x2.Init)) then true else (!x3)) then true else (!x4)) then true else (!x5)) then true else (!x6)))=true then M7 x1.Body x2.Body else some default)>>=fun x7=>
  if (bif (bif (bif (bif (bif (bif (bif (x1.Kind != x2.Kind) then true else (!(x1.Name == x2.Name))) then true else (x1.Init != x2.Init)) then true else (!x3)) then true else (!x4)) then true else (!x5)) then true else (!x6)) then true else (!x7))=true then
   some false
  else
   Eb a b (IntKind.i64.wrap (i+1))
 else
  some true
 partial_fixpoint
end
abbrev Et (a:List C0)(b:List C0)(res:Bool):Prop:=P0 C 50 [.d (.sl (C0.rows a)),.d (.sl (C0.rows b))] [] (Ret [] (.d (.bool res)))
abbrev R10 (a:List C0)(b:List C0)(i:Int)(res:Bool):Prop:=LM C 86 0 Tryz.f50 [1,1,0,1,4] [(0,.d (.sl (C0.rows a))),(1,.d (.sl (C0.rows b))),(5,.d (.int .i64 i))] [] (Ret [] (.d (.bool res)))
theorem N12:(∀ a b res,M9 a b=some res→Et a b res)∧(∀ a b i res,Eb a b i=some res→R10 a b i res):=by
 refine M9.mutual_partial_correctness _ _ ?_ ?_
 ·intro g1 ih1 a b res hh
  refine P0.intro hC Tryz.func50 rfl rfl rfl (t' rfl (S' (p' 1 rfl (qe' rfl trivial (C0.lenA _) (q' rfl (qe' rfl trivial (C0.lenA _) (e' rfl (ci' rfl hh (fun hh=>?_) (fun hh=>?_)))))))))
  ·cases hh
   exact t' rfl (re' (rq rfl))
  exact sk' (S' (t' rfl (bk' (fq (ih1 _ _ _ _ hh) rfl))))
 ·intro g0 g1 ih0 ih1 a b i res hh
  refine X0.unroll (S' (p' 2 rfl (qe' rfl trivial (C0.lenA _) (e' rfl (ci' rfl hh (fun hh=>?_) (fun hh=>?_))))))
  ·obtain ⟨x1,hx1,hh⟩:=bs' hh
   obtain ⟨x2,hx2,hh⟩:=bs' hh
   obtain ⟨x3,hx3,hh⟩:=bs' hh
   obtain ⟨x4,hx4,hh⟩:=bs' hh
   obtain ⟨x5,hx5,hh⟩:=bs' hh
   obtain ⟨x6,hx6,hh⟩:=bs' hh
   obtain ⟨x7,hx7,hh⟩:=bs' hh
   refine sk' (S' (bk' (p' 2 rfl (i' rfl (Z0 hx1) (C0.idx hx1) rfl (q' rfl (F0.nf hC rfl (F0.s hC rfl (n' (p' 2 rfl (i' rfl (Z0 hx2) (C0.idx hx2) rfl (q' rfl (F0.nf hC rfl (F0.s hC rfl ?_)))))))))))))
   refine n' (sg' 59 rfl (G' 7 rfl (a1' rfl (a0' rfl (a1' rfl (a2' rfl (po' rfl (G' 2 rfl (a1' rfl (a0' rfl (a1' rfl (a2' rfl (po' rfl ?_)))))))))))))
   refine G' 2 rfl (a1' rfl (a0' rfl (a1' rfl (AG.c rfl rfl (fun hg=>⟨hg,hg,trivial⟩) (fun hw=>Us (V1 hw hx3)) (a1' rfl (po' rfl (G' 2 rfl (a1' rfl (a0' rfl (a1' rfl (AG.c rfl rfl (fun hg=>⟨hg,hg,trivial⟩) (fun hw=>Cc (V1 hw hx4)) (a1' rfl (po' rfl ?_)))))))))))))
   refine G' 2 rfl (a1' rfl (a0' rfl (a1' rfl (AG.c rfl rfl (fun hg=>⟨hg,hg,trivial⟩) (fun hw=>ih0 _ _ _ (V1 hw hx5)) (a1' rfl (po' rfl (G' 2 rfl (a1' rfl (a0' rfl (a1' rfl (AG.c rfl rfl (fun hg=>⟨hg,hg,trivial⟩) (fun hw=>ih0 _ _ _ (V1 hw hx6)) (a1' rfl (po' rfl ?_)))))))))))))
   refine G' 2 rfl (a1' rfl (a0' rfl (a1' rfl (AG.c rfl rfl (fun hg=>⟨hg,hg,trivial⟩) (fun hw=>Lq (V1 hw hx7)) (a1' rfl (po' rfl (an' (n' (ci' rfl hh (fun hh=>?_) (fun hh=>?_))))))))))
   ·cases hh
    exact t' rfl (re' (rq rfl))
   exact sk' (T' rfl (lq (ih1 _ _ _ _ hh) rfl))
  cases hh
  exact ex' (t' rfl (re' (rq rfl)))
theorem W14 {a b res}(hh:M9 a b=some res):Et a b res:=(N12).1 _ _ _ hh
def Cn (p:O0)(q:O0):Option Bool:=
 M9 p.Decls q.Decls>>=fun x1=>
 (if x1=true then M7 p.Body q.Body else some default)>>=fun x2=>
 some (bif x1 then x2 else false)
theorem H1d {p q res}(hh:Cn p q=some res):P0 C 23 [.agg (O0.cells p),.agg (O0.cells q)] [] (Ret [] (.d (.bool res))):=by
 unfold Cn at hh
 obtain ⟨x1,hx1,hh⟩:=bs' hh
 obtain ⟨x2,hx2,hh⟩:=bs' hh
 cases hh
 refine P0.intro hC Tryz.func23 rfl rfl rfl (s' rfl rfl (F0.n hC rfl (F0.n hC rfl (e' rfl (sg' 13 rfl (G' 4 rfl (AG.c rfl rfl (fun _=>trivial) (fun _=>W14 hx1) (G' 2 rfl (a1' rfl (a0' rfl (a1' rfl (AG.c rfl rfl (fun hg=>⟨hg,hg,trivial⟩) (fun hw=>Lq (V1 hw hx2)) (pa' rfl ?_)))))))))))))
 exact a0' rfl (an' (n' (re' (rq rfl))))
mutual
def G6 (l:List B0)(left:Int):Option Int:=
 N9 l left 0
 partial_fixpoint
def N9 (l:List B0)(left2:Int)(i:Int):Option Int:=
 if (bif (decide (i < ((l).length:Int))) then (decide (left2≥0)) else false)=true then
  idx l i>>=fun x1=>
  Q6 x1.Place (IntKind.i64.wrap ((IntKind.i64.wrap (left2 - 1)) - (IntKind.i64.wrap (Int.tdiv ((x1.Name).length:Int) 16))))>>=fun x2=>
  Q6 x1.Value x2>>=fun x3=>
  Sc l x1 x3 i 0
 else
  some left2
 partial_fixpoint
def Sc (l:List B0)(x1:B0)(left1:Int)(i1:Int)(k:Int):Option Int:=
 if (bif (decide (k < ((x1.Args).length:Int))) then (decide (left1≥0)) else false)=true then
  idx x1.Args k>>=fun x4=>
  Q6 x4 left1>>=fun x5=>
  Sc l x1 x5 i1 (IntKind.i64.wrap (k+1))
 else
  if (decide (((x1.Numbers).length:Int) > 100))=true then
   some (-1)
  else
   G6 x1.Then left1>>=fun x6=>
   G6 x1.Else x6>>=fun x7=>
   N9 l x7 (IntKind.i64.wrap (i1+1))
 partial_fixpoint
end
abbrev Lu (l:List B0)(left:Int)(res:Int):Prop:=P0 C 52 [.d (.sl (B0.rows l)),.d (.int .i64 left)] [] (Ret [] (.d (.int .i64 res)))
abbrev O12 (l:List B0)(left2:Int)(i:Int)(res:Int):Prop:=LM C 68 0 Tryz.f52 [1,0,1,4] [(0,.d (.sl (B0.rows l))),(1,.d (.int .i64 left2)),(5,.d (.int .i64 i))] [] (Ret [] (.d (.int .i64 res)))
abbrev P12 (l:List B0)(x1:B0)(left1:Int)(i1:Int)(k:Int)(res:Int):Prop:=LM C 68 0 Tryz.f52 [1,0,1,4,5,1,0,4,1,1,1,1,0,1,4] [(0,.d (.sl (B0.rows l))),(1,.d (.int .i64 left1)),(5,.d (.int .i64 i1)),(6,.ref 0 0),(7,.d (.int .i64 k))] [.row (B0.cells x1) 144] (Ret [] (.d (.int .i64 res)))
theorem X14:(∀ l left res,G6 l left=some res→Lu l left res)∧(∀ l left2 i res,N9 l left2 i=some res→O12 l left2 i res)∧(∀ l x1 left1 i1 k res,Sc l x1 left1 i1 k=some res→P12 l x1 left1 i1 k res):=by
 refine G6.mutual_partial_correctness _ _ _ ?_ ?_ ?_
 ·intro g1 ih1 l left res hh
  exact P0.intro hC Tryz.func52 rfl rfl rfl (t' rfl (S' (t' rfl (bk' (fq (ih1 _ _ _ _ hh) rfl)))))
 ·intro g2 ih2 l left2 i res hh
  refine X0.unroll (S' (sg' 8 rfl (G' 2 rfl (AG.qe hC rfl (fun hg=>⟨trivial,trivial⟩) (B0.lenA _) (G' 3 rfl (a1' rfl (pa' rfl (an' (n' (ci' rfl hh (fun hh=>?_) (fun hh=>?_)))))))))))
  ·obtain ⟨x1,hx1,hh⟩:=bs' hh
   obtain ⟨x2,hx2,hh⟩:=bs' hh
   obtain ⟨x3,hx3,hh⟩:=bs' hh
   refine sk' (S' (bk' (p' 2 rfl (i' rfl (Z0 hx1) (B0.idx hx1) rfl (q' rfl (F0.nf hC rfl (F0.s hC rfl (n' (p' 5 rfl (qc' rfl (by decide) (e' rfl (p' 3 rfl (cq (Bi hx2) rfl ?_)))))))))))))
   exact e' rfl (p' 3 rfl (cq (Bi hx3) rfl (e' rfl (S' (t' rfl (bk' (fq (ih2 _ _ _ _ _ _ hh) rfl)))))))
  cases hh
  exact ex' (t' rfl (re' (rq rfl)))
 ·intro g0 g1 g2 ih0 ih1 ih2 l x1 left1 i1 k res hh
  refine X0.unroll (S' (sg' 9 rfl (G' 3 rfl (AG.qe hC rfl (fun hg=>⟨trivial,trivial⟩) (A0.lenA _) (G' 3 rfl (a1' rfl (pa' rfl (an' (n' (ci' rfl hh (fun hh=>?_) (fun hh=>?_)))))))))))
  ·obtain ⟨x4,hx4,hh⟩:=bs' hh
   obtain ⟨x5,hx5,hh⟩:=bs' hh
   exact sk' (S' (bk' (P' 3 rfl (i' rfl (Z0 hx4) (A0.idx hx4) rfl (o' 2 rfl (cq (Bi hx5) rfl (e' rfl (T' rfl (lq (ih2 _ _ _ _ _ _ hh) rfl)))))))))
  refine ex' (S' (p' 2 rfl (qe' rfl trivial (ei64.lenA _) (e' rfl (ci' rfl hh (fun hh=>?_) (fun hh=>?_))))))
  ·cases hh
   exact t' rfl (re' (rq rfl))
  obtain ⟨x6,hx6,hh⟩:=bs' hh
  obtain ⟨x7,hx7,hh⟩:=bs' hh
  exact sk' (p' 3 rfl (cq (ih0 _ _ _ hx6) rfl (e' rfl (P' 3 rfl (cq (ih0 _ _ _ hx7) rfl (e' rfl (T' rfl (lq (ih1 _ _ _ _ hh) rfl))))))))
theorem Ft {l left res}(hh:G6 l left=some res):Lu l left res:=(X14).1 _ _ _ hh
mutual
def Wa (l:List C0)(left:Int):Option Int:=
 Tc l left 0
 partial_fixpoint
def Tc (l:List C0)(left1:Int)(i:Int):Option Int:=
 if (bif (decide (i < ((l).length:Int))) then (decide (left1≥0)) else false)=true then
  idx l i>>=fun x1=>
  Fa x1.TypeV (IntKind.i64.wrap ((IntKind.i64.wrap (left1 - 1)) - (IntKind.i64.wrap (Int.tdiv ((x1.Name).length:Int) 16))))>>=fun x2=>
  Q6 x1.Value x2>>=fun x3=>
  Wa x1.Params x3>>=fun x4=>
  Wa x1.Vars x4>>=fun x5=>
  G6 x1.Body x5>>=fun x6=>
  Tc l x6 (IntKind.i64.wrap (i+1))
 else
  some left1
 partial_fixpoint
end
abbrev Mu (l:List C0)(left:Int)(res:Int):Prop:=P0 C 53 [.d (.sl (C0.rows l)),.d (.int .i64 left)] [] (Ret [] (.d (.int .i64 res)))
abbrev Q12 (l:List C0)(left1:Int)(i:Int)(res:Int):Prop:=LM C 49 0 Tryz.f53 [1,0,1,4] [(0,.d (.sl (C0.rows l))),(1,.d (.int .i64 left1)),(5,.d (.int .i64 i))] [] (Ret [] (.d (.int .i64 res)))
theorem Y14:(∀ l left res,Wa l left=some res→Mu l left res)∧(∀ l left1 i res,Tc l left1 i=some res→Q12 l left1 i res):=by
 refine Wa.mutual_partial_correctness _ _ ?_ ?_
 ·intro g1 ih1 l left res hh
  exact P0.intro hC Tryz.func53 rfl rfl rfl (t' rfl (S' (t' rfl (bk' (fq (ih1 _ _ _ _ hh) rfl)))))
 ·intro g0 g1 ih0 ih1 l left1 i res hh
  refine X0.unroll (S' (sg' 8 rfl (G' 2 rfl (AG.qe hC rfl (fun hg=>⟨trivial,trivial⟩) (C0.lenA _) (G' 3 rfl (a1' rfl (pa' rfl (an' (n' (ci' rfl hh (fun hh=>?_) (fun hh=>?_)))))))))))
  ·obtain ⟨x1,hx1,hh⟩:=bs' hh
   obtain ⟨x2,hx2,hh⟩:=bs' hh
   obtain ⟨x3,hx3,hh⟩:=bs' hh
   obtain ⟨x4,hx4,hh⟩:=bs' hh
   obtain ⟨x5,hx5,hh⟩:=bs' hh
   obtain ⟨x6,hx6,hh⟩:=bs' hh
   refine sk' (S' (bk' (p' 2 rfl (i' rfl (Z0 hx1) (C0.idx hx1) rfl (q' rfl (F0.nf hC rfl (F0.s hC rfl (n' (p' 5 rfl (qc' rfl (by decide) (e' rfl (p' 3 rfl (cq (C18 hx2) rfl ?_)))))))))))))
   exact e' rfl (p' 3 rfl (cq (Bi hx3) rfl (e' rfl (p' 3 rfl (cq (ih0 _ _ _ hx4) rfl (e' rfl (p' 3 rfl (cq (ih0 _ _ _ hx5) rfl (e' rfl (P' 3 rfl (cq (Ft hx6) rfl (e' rfl (T' rfl (lq (ih1 _ _ _ _ hh) rfl))))))))))))))
  cases hh
  exact ex' (t' rfl (re' (rq rfl)))
theorem J16 {l left res}(hh:Wa l left=some res):Mu l left res:=(Y14).1 _ _ _ hh
def Gt (p:O0)(most:Int):Option Bool:=
 Wa p.Decls most>>=fun x1=>
 G6 p.Body x1>>=fun x2=>
 some (decide (x2≥0))
theorem N1h {p most res}(hh:Gt p most=some res):P0 C 24 [.agg (O0.cells p),.d (.int .i64 most)] [] (Ret [] (.d (.bool res))):=by
 unfold Gt at hh
 obtain ⟨x1,hx1,hh⟩:=bs' hh
 obtain ⟨x2,hx2,hh⟩:=bs' hh
 cases hh
 exact P0.intro hC Tryz.func24 rfl rfl rfl (s' rfl rfl (F0.n hC rfl (e' rfl (S' (AEx.draw hC 9 rfl rfl rfl (O' 5 rfl (Qc' (J16 hx1) rfl rfl (Qc' (Ft hx2) rfl rfl (E' rfl (n' (re' (rq rfl))))))))))))
def La (d:C0)(s:Str):Option Str:=
 if (bif (d.Init != 0) then (d.TypeV.Kind != 0) else false)=true then
  if (decide (s.length+3≤maxLen))=true then
   N3 d.Init>>=fun x2=>
   if (decide ((s++[32,61,32]).length+x2.length≤maxLen))=true then
    if (decide (((s++[32,61,32])++x2).length+2≤maxLen))=true then
     some (((s++[32,61,32])++x2)++[59,10])
    else none
   else none
  else none
 else
  if (decide (s.length+2≤maxLen))=true then
   some (s++[59,10])
  else none
theorem Pp {d s res}(hh:La d s=some res):JM C 40 0 Tryz.f100 [1,1,1] [(1,.ref 0 0),(3,.d (.str s))] [.row (C0.cells d) 128] (Ret [] (.d (.str res))):=by
 unfold La at hh
 refine S' (sg' 9 rfl (G' 5 rfl (a1' rfl (a1' rfl (a1' rfl (pa' rfl (an' (n' (ci' rfl hh (fun hh=>?_) (fun hh=>?_))))))))))
 ·obtain ⟨c41,hh⟩:=N0 hh
  obtain ⟨x2,hx2,hh⟩:=bs' hh
  obtain ⟨c42,hh⟩:=N0 hh
  obtain ⟨c43,hh⟩:=N0 hh
  cases hh
  exact P' 1 rfl (qc' rfl c41 (o' 2 rfl (cq (U6 hx2) rfl (qc' rfl c42 (e' rfl (p' 1 rfl (qc' rfl c43 (e' rfl (re' (rq rfl))))))))))
 obtain ⟨c44,hh⟩:=N0 hh
 cases hh
 exact sk' (p' 1 rfl (qc' rfl c44 (e' rfl (re' (rq rfl)))))
def Hg (d:C0):Option Str:=
 if (decide (4+d.Name.length≤maxLen))=true then
  if (decide (([118,97,114,32]++d.Name).length+2≤maxLen))=true then
   T2 d.TypeV>>=fun x1=>
   if (decide ((([118,97,114,32]++d.Name)++[58,32]).length+x1.length≤maxLen))=true then
    if (bif (d.Init != 0) then (d.TypeV.Kind == 0) else false)=true then
     if (decide (((([118,97,114,32]++d.Name)++[58,32])++x1).length+7≤maxLen))=true then
      La d (((([118,97,114,32]++d.Name)++[58,32])++x1)++[32,61,32,116,114,117,101])
     else none
    else
     La d ((([118,97,114,32]++d.Name)++[58,32])++x1)
   else none
  else none
 else none
theorem Nu {d res}(hh:Hg d=some res):P0 C 100 [.agg (C0.cells d)] [] (Ret [] (.d (.str res))):=by
 unfold Hg at hh
 obtain ⟨c37,hh⟩:=N0 hh
 obtain ⟨c38,hh⟩:=N0 hh
 obtain ⟨x1,hx1,hh⟩:=bs' hh
 obtain ⟨c39,hh⟩:=N0 hh
 refine P0.intro hC Tryz.func100 rfl rfl rfl (s' rfl rfl (F0.n hC rfl (e' rfl (S' (AEx.draw hC 9 rfl rfl rfl (O' 2 rfl (AQ.q hC rfl c37 (AQ.q hC rfl c38 (O' 2 rfl (Qc' (E8 hx1) rfl rfl (AQ.q hC rfl c39 (E' rfl (n' ?_)))))))))))))
 refine S' (sg' 9 rfl (G' 5 rfl (a1' rfl (a1' rfl (a1' rfl (pa' rfl (an' (n' (ci' rfl hh (fun hh=>?_) (fun hh=>?_))))))))))
 ·obtain ⟨c40,hh⟩:=N0 hh
  exact P' 1 rfl (qc' rfl c40 (e' rfl (eq' (Pp hh) rfl)))
 exact sk' (eq' (Pp hh) rfl)
mutual
def Uc (l:List A0)(s:Str)(i:Int):Option Str:=
 if (decide (i < ((l).length:Int)))=true then
  if (decide (i > 0))=true then
   if (decide (s.length+2≤maxLen))=true then
    Bj l (s++[44,32]) i
   else none
  else
   Bj l s i
 else
  some s
 partial_fixpoint
def Bj (l:List A0)(s1:Str)(i1:Int):Option Str:=
 idx l i1>>=fun x1=>
 L1 x1>>=fun x2=>
 if (decide (s1.length+x2.length≤maxLen))=true then
  Uc l (s1++x2) (IntKind.i64.wrap (i1+1))
 else none
 partial_fixpoint
end
abbrev Sw (l:List A0)(s:Str)(i:Int)(res:Str):Prop:=LM C 23 0 Tryz.f159 [1,1,0,1,4] [(0,.d (.sl (A0.rows l))),(3,.d (.str s)),(4,.d (.int .i64 i))] [] (Ret [] (.d (.str res)))
abbrev P19 (l:List A0)(s1:Str)(i1:Int)(res:Str):Prop:=JM C 23 0 Tryz.f159 [1,1,0,1,4,5,1,0,4,1] [(0,.d (.sl (A0.rows l))),(3,.d (.str s1)),(4,.d (.int .i64 i1))] [] (Ret [] (.d (.str res)))
theorem K16 (l:List A0):(∀ s i res,Uc l s i=some res→Sw l s i res)∧(∀ s1 i1 res,Bj l s1 i1=some res→P19 l s1 i1 res):=by
 refine Uc.mutual_partial_correctness l _ _ ?_ ?_
 ·intro g1 ih1 s i res hh
  refine X0.unroll (S' (p' 2 rfl (qe' rfl trivial (A0.lenA _) (e' rfl (ci' rfl hh (fun hh=>?_) (fun hh=>?_))))))
  ·refine sk' (S' (bk' (S' (t' rfl (ci' rfl hh (fun hh=>?_) (fun hh=>?_))))))
   ·obtain ⟨c12,hh⟩:=N0 hh
    exact P' 1 rfl (qc' rfl c12 (e' rfl (eq' (ih1 _ _ _ hh) rfl)))
   exact sk' (eq' (ih1 _ _ _ hh) rfl)
  cases hh
  exact ex' (t' rfl (re' (rq rfl)))
 ·intro g0 ih0 s1 i1 res hh
  obtain ⟨x1,hx1,hh⟩:=bs' hh
  obtain ⟨x2,hx2,hh⟩:=bs' hh
  obtain ⟨c13,hh⟩:=N0 hh
  exact P' 3 rfl (i' rfl (Z0 hx1) (A0.idx hx1) rfl (q' rfl (cq (U5 hx2) rfl (qc' rfl c13 (e' rfl (T' rfl (lq (ih0 _ _ _ hh) rfl)))))))
theorem H18 {l s i res}(hh:Uc l s i=some res):Sw l s i res:=(K16 l).1 _ _ _ hh
def Dn (l:List A0):Option Str:=
 Uc l [] 0
theorem I1d {l res}(hh:Dn l=some res):P0 C 159 [.d (.sl (A0.rows l))] [] (Ret [] (.d (.str res))):=by
 unfold Dn at hh
 exact P0.intro hC Tryz.func159 rfl rfl rfl (t' rfl (t' rfl (S' (t' rfl (bk' (fq (H18 hh) rfl))))))
mutual
def Jb (l:List B0)(margin:Str):Option Str:=
 R3 l margin [] 0
 partial_fixpoint
def R3 (l:List B0)(margin:Str)(out9:Str)(i:Int):Option Str:=
 if (decide (i < ((l).length:Int)))=true then
  idx l i>>=fun x1=>
  if (decide (out9.length+margin.length≤maxLen))=true then
   if (x1.Verb == 0)=true then
    L1 x1.Place>>=fun x2=>
    if (decide ((out9++margin).length+x2.length≤maxLen))=true then
     if (decide (((out9++margin)++x2).length+3≤maxLen))=true then
      L1 x1.Value>>=fun x3=>
      if (decide ((((out9++margin)++x2)++[32,61,32]).length+x3.length≤maxLen))=true then
       if (decide (((((out9++margin)++x2)++[32,61,32])++x3).length+2≤maxLen))=true then
        Y5 l margin x1 (((((out9++margin)++x2)++[32,61,32])++x3)++[59,10]) i
       else none
      else none
     else none
    else none
   else
    Y5 l margin x1 (out9++margin) i
  else none
 else
  some out9
 partial_fixpoint
def Y5 (l:List B0)(margin:Str)(x1:B0)(out:Str)(i1:Int):Option Str:=
 if (x1.Verb == 1)=true then
  L1 x1.Place>>=fun x4=>
  if (decide (out.length+x4.length≤maxLen))=true then
   if (decide ((out++x4).length+8≤maxLen))=true then
    if (decide (((out++x4)++[32,61,32,99,97,108,108,32]).length+x1.Name.length≤maxLen))=true then
     if (decide ((((out++x4)++[32,61,32,99,97,108,108,32])++x1.Name).length+1≤maxLen))=true then
      Dn x1.Args>>=fun x5=>
      if (decide (((((out++x4)++[32,61,32,99,97,108,108,32])++x1.Name)++[40]).length+x5.length≤maxLen))=true then
       if (decide ((((((out++x4)++[32,61,32,99,97,108,108,32])++x1.Name)++[40])++x5).length+3≤maxLen))=true then
        Z5 l margin x1 ((((((out++x4)++[32,61,32,99,97,108,108,32])++x1.Name)++[40])++x5)++[41,59,10]) i1
       else none
      else none
     else none
    else none
   else none
  else none
 else
  Z5 l margin x1 out i1
 partial_fixpoint
def Z5 (l:List B0)(margin:Str)(x1:B0)(out1:Str)(i2:Int):Option Str:=
 if (x1.Verb == 2)=true then
  L1 x1.Place>>=fun x6=>
  if (decide (out1.length+x6.length≤maxLen))=true then
   if (decide ((out1++x6).length+11≤maxLen))=true then
    if (decide (((out1++x6)++[32,61,32,114,101,108,101,97,115,101,32]).length+x1.Name.length≤maxLen))=true then
     if (decide ((((out1++x6)++[32,61,32,114,101,108,101,97,115,101,32])++x1.Name).length+2≤maxLen))=true then
      A6 l margin x1 ((((out1++x6)++[32,61,32,114,101,108,101,97,115,101,32])++x1.Name)++[59,10]) i2
     else none
    else none
   else none
  else none
 else
  A6 l margin x1 out1 i2
 partial_fixpoint
def A6 (l:List B0)(margin:Str)(x1:B0)(out2:Str)(i3:Int):Option Str:=
 if (x1.Verb == 3)=true then
  if (decide (out2.length+7≤maxLen))=true then
   L1 x1.Value>>=fun x7=>
   if (decide ((out2++[111,117,116,112,117,116,32]).length+x7.length≤maxLen))=true then
    if (decide (((out2++[111,117,116,112,117,116,32])++x7).length+2≤maxLen))=true then
     B6 l margin x1 (((out2++[111,117,116,112,117,116,32])++x7)++[59,10]) i3
    else none
   else none
  else none
 else
  B6 l margin x1 out2 i3
 partial_fixpoint
def B6 (l:List B0)(margin:Str)(x1:B0)(out3:Str)(i4:Int):Option Str:=
 if (x1.Verb == 4)=true then
  if (decide (out3.length+5≤maxLen))=true then
   N3 x1.NV>>=fun x8=>
   if (decide ((out3++[119,97,105,116,32]).length+x8.length≤maxLen))=true then
    if (decide (((out3++[119,97,105,116,32])++x8).length+2≤maxLen))=true then
     C6 l margin x1 (((out3++[119,97,105,116,32])++x8)++[59,10]) i4
    else none
   else none
  else none
 else
  C6 l margin x1 out3 i4
 partial_fixpoint
def C6 (l:List B0)(margin:Str)(x1:B0)(out4:Str)(i5:Int):Option Str:=
 if (x1.Verb == 5)=true then
  if (decide (out4.length+3≤maxLen))=true then
   L1 x1.Value>>=fun x9=>
   if (decide ((out4++[105,102,32]).length+x9.length≤maxLen))=true then
    if (decide (((out4++[105,102,32])++x9).length+3≤maxLen))=true then
     if (decide (margin.length+1≤maxLen))=true then
      Jb x1.Then (margin++[9])>>=fun x16=>
      if (decide ((((out4++[105,102,32])++x9)++[32,123,10]).length+x16.length≤maxLen))=true then
       if (decide (((((out4++[105,102,32])++x9)++[32,123,10])++x16).length+margin.length≤maxLen))=true then
        if (decide ((((((out4++[105,102,32])++x9)++[32,123,10])++x16)++margin).length+1≤maxLen))=true then
         if (decide (((x1.Else).length:Int) > 0))=true then
          if (decide (((((((out4++[105,102,32])++x9)++[32,123,10])++x16)++margin)++[125]).length+8≤maxLen))=true then
           if (decide (margin.length+1≤maxLen))=true then
            Jb x1.Else (margin++[9])>>=fun x17=>
            if (decide ((((((((out4++[105,102,32])++x9)++[32,123,10])++x16)++margin)++[125])++[32,101,108,115,101,32,123,10]).length+x17.length≤maxLen))=true then
             if (decide (((((((((out4++[105,102,32])++x9)++[32,123,10])++x16)++margin)++[125])++[32,101,108,115,101,32,123,10])++x17).length+margin.length≤maxLen))=true then
              if (decide ((((((((((out4++[105,102,32])++x9)++[32,123,10])++x16)++margin)++[125])++[32,101,108,115,101,32,123,10])++x17)++margin).length+1≤maxLen))=true then
               Cj l margin x1 ((((((((((out4++[105,102,32])++x9)++[32,123,10])++x16)++margin)++[125])++[32,101,108,115,101,32,123,10])++x17)++margin)++[125]) i5
              else none
             else none
            else none
           else none
          else none
         else
          Cj l margin x1 ((((((out4++[105,102,32])++x9)++[32,123,10])++x16)++margin)++[125]) i5
        else none
       else none
      else none
     else none
    else none
   else none
  else none
 else
  D5 l margin x1 out4 i5
 partial_fixpoint
def D5 (l:List B0)(margin:Str)(x1:B0)(out6:Str)(i7:Int):Option Str:=
 if (x1.Verb == 6)=true then
  if (decide (out6.length+6≤maxLen))=true then
   L1 x1.Value>>=fun x10=>
   if (decide ((out6++[119,104,105,108,101,32]).length+x10.length≤maxLen))=true then
    if (decide (((out6++[119,104,105,108,101,32])++x10).length+7≤maxLen))=true then
     N3 x1.NV>>=fun x11=>
     if (decide ((((out6++[119,104,105,108,101,32])++x10)++[32,108,105,109,105,116,32]).length+x11.length≤maxLen))=true then
      if (decide (((((out6++[119,104,105,108,101,32])++x10)++[32,108,105,109,105,116,32])++x11).length+3≤maxLen))=true then
       if (decide (margin.length+1≤maxLen))=true then
        Jb x1.Then (margin++[9])>>=fun x18=>
        if (decide ((((((out6++[119,104,105,108,101,32])++x10)++[32,108,105,109,105,116,32])++x11)++[32,123,10]).length+x18.length≤maxLen))=true then
         if (decide (((((((out6++[119,104,105,108,101,32])++x10)++[32,108,105,109,105,116,32])++x11)++[32,123,10])++x18).length+margin.length≤maxLen))=true then
          if (decide ((((((((out6++[119,104,105,108,101,32])++x10)++[32,108,105,109,105,116,32])++x11)++[32,123,10])++x18)++margin).length+2≤maxLen))=true then
           E5 l margin x1 ((((((((out6++[119,104,105,108,101,32])++x10)++[32,108,105,109,105,116,32])++x11)++[32,123,10])++x18)++margin)++[125,10]) i7
          else none
         else none
        else none
       else none
      else none
     else none
    else none
   else none
  else none
 else
  E5 l margin x1 out6 i7
 partial_fixpoint
def E5 (l:List B0)(margin:Str)(x1:B0)(out7:Str)(i8:Int):Option Str:=
 if (x1.Verb == 7)=true then
  if (decide (out7.length+4≤maxLen))=true then
   if (decide ((out7++[102,111,114,32]).length+x1.Name.length≤maxLen))=true then
    if (decide (((out7++[102,111,114,32])++x1.Name).length+3≤maxLen))=true then
     N3 x1.Low>>=fun x12=>
     if (decide ((((out7++[102,111,114,32])++x1.Name)++[32,61,32]).length+x12.length≤maxLen))=true then
      if (decide (((((out7++[102,111,114,32])++x1.Name)++[32,61,32])++x12).length+4≤maxLen))=true then
       N3 x1.High>>=fun x13=>
       if (decide ((((((out7++[102,111,114,32])++x1.Name)++[32,61,32])++x12)++[32,116,111,32]).length+x13.length≤maxLen))=true then
        if (decide (((((((out7++[102,111,114,32])++x1.Name)++[32,61,32])++x12)++[32,116,111,32])++x13).length+3≤maxLen))=true then
         if (decide (margin.length+1≤maxLen))=true then
          Jb x1.Then (margin++[9])>>=fun x19=>
          if (decide ((((((((out7++[102,111,114,32])++x1.Name)++[32,61,32])++x12)++[32,116,111,32])++x13)++[32,123,10]).length+x19.length≤maxLen))=true then
           if (decide (((((((((out7++[102,111,114,32])++x1.Name)++[32,61,32])++x12)++[32,116,111,32])++x13)++[32,123,10])++x19).length+margin.length≤maxLen))=true then
            if (decide ((((((((((out7++[102,111,114,32])++x1.Name)++[32,61,32])++x12)++[32,116,111,32])++x13)++[32,123,10])++x19)++margin).length+2≤maxLen))=true then
             K4 l margin x1 ((((((((((out7++[102,111,114,32])++x1.Name)++[32,61,32])++x12)++[32,116,111,32])++x13)++[32,123,10])++x19)++margin)++[125,10]) i8
            else none
           else none
          else none
         else none
        else none
       else none
      else none
     else none
    else none
   else none
  else none
 else
  K4 l margin x1 out7 i8
 partial_fixpoint
def K4 (l:List B0)(margin:Str)(x1:B0)(out8:Str)(i9:Int):Option Str:=
 if (x1.Verb == 8)=true then
  if (decide (out8.length+7≤maxLen))=true then
   Kf l margin x1 (out8++[115,101,116,116,108,101,32]) i9 0
  else none
 else
  R3 l margin out8 (IntKind.i64.wrap (i9+1))
 partial_fixpoint
def Kf (l:List B0)(margin:Str)(x1:B0)(out10:Str)(i10:Int)(k:Int):Option Str:=
 if (decide (k < ((x1.Numbers).length:Int)))=true then
  if (decide (k > 0))=true then
   if (decide (out10.length+2≤maxLen))=true then
    Nh l margin x1 (out10++[44,32]) i10 k
   else none
  else
   Nh l margin x1 out10 i10 k
 else
  if (decide (out10.length+2≤maxLen))=true then
   R3 l margin (out10++[59,10]) (IntKind.i64.wrap (i10+1))
  else none
 partial_fixpoint
def Nh (l:List B0)(margin:Str)(x1:B0)(out11:Str)(i10:Int)(k1:Int):Option Str:=
 idx x1.Numbers k1>>=fun x14=>
 N3 x14>>=fun x15=>
 if (decide (out11.length+x15.length≤maxLen))=true then
  Kf l margin x1 (out11++x15) i10 (IntKind.i64.wrap (k1+1))
 else none
 partial_fixpoint
def Cj (l:List B0)(margin:Str)(x1:B0)(out5:Str)(i6:Int):Option Str:=
 if (decide (out5.length+1≤maxLen))=true then
  D5 l margin x1 (out5++[10]) i6
 else none
 partial_fixpoint
end
abbrev M13 (l:List B0)(margin:Str)(res:Str):Prop:=P0 C 102 [.d (.sl (B0.rows l)),.d (.str margin)] [] (Ret [] (.d (.str res)))
abbrev Q19 (l:List B0)(margin:Str)(out9:Str)(i:Int)(res:Str):Prop:=LM C 202 0 Tryz.f102 [1,1,0,1,4] [(0,.d (.sl (B0.rows l))),(1,.d (.str margin)),(5,.d (.str out9)),(6,.d (.int .i64 i))] [] (Ret [] (.d (.str res)))
abbrev R19 (l:List B0)(margin:Str)(x1:B0)(out:Str)(i1:Int)(res:Str):Prop:=JM C 202 0 Tryz.f102 [1,1,0,1,4,5,1,0,4,1,1,1] [(0,.d (.sl (B0.rows l))),(1,.d (.str margin)),(5,.d (.str out)),(6,.d (.int .i64 i1)),(7,.ref 0 0)] [.row (B0.cells x1) 144] (Ret [] (.d (.str res)))
abbrev S19 (l:List B0)(margin:Str)(x1:B0)(out1:Str)(i2:Int)(res:Str):Prop:=JM C 202 0 Tryz.f102 [1,1,0,1,4,5,1,0,4,1,1,1,1] [(0,.d (.sl (B0.rows l))),(1,.d (.str margin)),(5,.d (.str out1)),(6,.d (.int .i64 i2)),(7,.ref 0 0)] [.row (B0.cells x1) 144] (Ret [] (.d (.str res)))
abbrev T19 (l:List B0)(margin:Str)(x1:B0)(out2:Str)(i3:Int)(res:Str):Prop:=JM C 202 0 Tryz.f102 [1,1,0,1,4,5,1,0,4,1,1,1,1,1] [(0,.d (.sl (B0.rows l))),(1,.d (.str margin)),(5,.d (.str out2)),(6,.d (.int .i64 i3)),(7,.ref 0 0)] [.row (B0.cells x1) 144] (Ret [] (.d (.str res)))
abbrev U19 (l:List B0)(margin:Str)(x1:B0)(out3:Str)(i4:Int)(res:Str):Prop:=JM C 202 0 Tryz.f102 [1,1,0,1,4,5,1,0,4,1,1,1,1,1,1] [(0,.d (.sl (B0.rows l))),(1,.d (.str margin)),(5,.d (.str out3)),(6,.d (.int .i64 i4)),(7,.ref 0 0)] [.row (B0.cells x1) 144] (Ret [] (.d (.str res)))
abbrev V19 (l:List B0)(margin:Str)(x1:B0)(out4:Str)(i5:Int)(res:Str):Prop:=JM C 202 0 Tryz.f102 [1,1,0,1,4,5,1,0,4,1,1,1,1,1,1,1] [(0,.d (.sl (B0.rows l))),(1,.d (.str margin)),(5,.d (.str out4)),(6,.d (.int .i64 i5)),(7,.ref 0 0)] [.row (B0.cells x1) 144] (Ret [] (.d (.str res)))
abbrev W19 (l:List B0)(margin:Str)(x1:B0)(out6:Str)(i7:Int)(res:Str):Prop:=JM C 202 0 Tryz.f102 [1,1,0,1,4,5,1,0,4,1,1,1,1,1,1,1,1] [(0,.d (.sl (B0.rows l))),(1,.d (.str margin)),(5,.d (.str out6)),(6,.d (.int .i64 i7)),(7,.ref 0 0)] [.row (B0.cells x1) 144] (Ret [] (.d (.str res)))
abbrev X19 (l:List B0)(margin:Str)(x1:B0)(out7:Str)(i8:Int)(res:Str):Prop:=JM C 202 0 Tryz.f102 [1,1,0,1,4,5,1,0,4,1,1,1,1,1,1,1,1,1] [(0,.d (.sl (B0.rows l))),(1,.d (.str margin)),(5,.d (.str out7)),(6,.d (.int .i64 i8)),(7,.ref 0 0)] [.row (B0.cells x1) 144] (Ret [] (.d (.str res)))
abbrev I18 (l:List B0)(margin:Str)(x1:B0)(out8:Str)(i9:Int)(res:Str):Prop:=JM C 202 0 Tryz.f102 [1,1,0,1,4,5,1,0,4,1,1,1,1,1,1,1,1,1,1] [(0,.d (.sl (B0.rows l))),(1,.d (.str margin)),(5,.d (.str out8)),(6,.d (.int .i64 i9)),(7,.ref 0 0)] [.row (B0.cells x1) 144] (Ret [] (.d (.str res)))
abbrev J18 (l:List B0)(margin:Str)(x1:B0)(out10:Str)(i10:Int)(k:Int)(res:Str):Prop:=LM C 202 0 Tryz.f102 [1,1,0,1,4,5,1,0,4,1,1,1,1,1,1,1,1,1,1,1,2,1,0,1,4] [(0,.d (.sl (B0.rows l))),(1,.d (.str margin)),(5,.d (.str out10)),(6,.d (.int .i64 i10)),(7,.ref 0 0),(8,.d (.int .i64 k))] [.row (B0.cells x1) 144] (Ret [] (.d (.str res)))
abbrev K18 (l:List B0)(margin:Str)(x1:B0)(out11:Str)(i10:Int)(k1:Int)(res:Str):Prop:=JM C 202 0 Tryz.f102 [1,1,0,1,4,5,1,0,4,1,1,1,1,1,1,1,1,1,1,1,2,1,0,1,4,5,1,0,4,1] [(0,.d (.sl (B0.rows l))),(1,.d (.str margin)),(5,.d (.str out11)),(6,.d (.int .i64 i10)),(7,.ref 0 0),(8,.d (.int .i64 k1))] [.row (B0.cells x1) 144] (Ret [] (.d (.str res)))
abbrev Y19 (l:List B0)(margin:Str)(x1:B0)(out5:Str)(i6:Int)(res:Str):Prop:=JM C 202 0 Tryz.f102 [1,1,0,1,4,5,1,0,4,1,1,1,1,1,1,1,0,1,2,1,1] [(0,.d (.sl (B0.rows l))),(1,.d (.str margin)),(5,.d (.str out5)),(6,.d (.int .i64 i6)),(7,.ref 0 0)] [.row (B0.cells x1) 144] (Ret [] (.d (.str res)))
theorem S1b:(∀ l margin res,Jb l margin=some res→M13 l margin res)∧(∀ l margin out9 i res,R3 l margin out9 i=some res→Q19 l margin out9 i res)∧(∀ l margin x1 out i1 res,Y5 l margin x1 out i1=some res→R19 l margin x1 out i1 res)∧(∀ l margin x1 out1 i2 res,Z5 l margin x1 out1 i2=some res→S19 l margin x1 out1 i2 res)∧(∀ l margin x1 out2 i3 res,A6 l margin x1 out2 i3=some res→T19 l margin x1 out2 i3 res)∧(∀ l margin x1 out3 i4 res,B6 l margin x1 out3 i4=some res→U19 l margin x1 out3 i4 res)∧(∀ l margin x1 out4 i5 res,C6 l margin x1 out4 i5=some res→V19 l margin x1 out4 i5 res)∧(∀ l margin x1 out6 i7 res,D5 l margin x1 out6 i7=some res→W19 l margin x1 out6 i7 res)∧(∀ l margin x1 out7 i8 res,E5 l margin x1 out7 i8=some res→X19 l margin x1 out7 i8 res)∧(∀ l margin x1 out8 i9 res,K4 l margin x1 out8 i9=some res→I18 l margin x1 out8 i9 res)∧(∀ l margin x1 out10 i10 k res,Kf l margin x1 out10 i10 k=some res→J18 l margin x1 out10 i10 k res)∧(∀ l margin x1 out11 i10 k1 res,Nh l margin x1 out11 i10 k1=some res→K18 l margin x1 out11 i10 k1 res)∧(∀ l margin x1 out5 i6 res,Cj l margin x1 out5 i6=some res→Y19 l margin x1 out5 i6 res):=by
 refine Jb.mutual_partial_correctness _ _ _ _ _ _ _ _ _ _ _ _ _ ?_ ?_ ?_ ?_ ?_ ?_ ?_ ?_ ?_ ?_ ?_ ?_ ?_
 ·intro g1 ih1 l margin res hh
  exact P0.intro hC Tryz.func102 rfl rfl rfl (t' rfl (t' rfl (S' (t' rfl (bk' (fq (ih1 _ _ _ _ _ hh) rfl))))))
 ·intro g2 ih2 l margin out9 i res hh
  refine X0.unroll (S' (p' 2 rfl (qe' rfl trivial (B0.lenA _) (e' rfl (ci' rfl hh (fun hh=>?_) (fun hh=>?_))))))
  ·obtain ⟨x1,hx1,hh⟩:=bs' hh
   obtain ⟨c2283,hh⟩:=N0 hh
   refine sk' (S' (bk' (p' 2 rfl (i' rfl (Z0 hx1) (B0.idx hx1) rfl (q' rfl (F0.nf hC rfl (F0.s hC rfl (n' (p' 2 rfl (qc' rfl c2283 (e' rfl (S' (t' rfl (ci' rfl hh (fun hh=>?_) (fun hh=>?_)))))))))))))))
   ·obtain ⟨x2,hx2,hh⟩:=bs' hh
    obtain ⟨c2284,hh⟩:=N0 hh
    obtain ⟨c2285,hh⟩:=N0 hh
    obtain ⟨x3,hx3,hh⟩:=bs' hh
    obtain ⟨c2286,hh⟩:=N0 hh
    obtain ⟨c2287,hh⟩:=N0 hh
    exact AEx.draw hC 12 rfl rfl rfl (O' 3 rfl (Qc' (U5 hx2) rfl rfl (AQ.q hC rfl c2284 (AQ.q hC rfl c2285 (O' 2 rfl (Qc' (U5 hx3) rfl rfl (AQ.q hC rfl c2286 (AQ.q hC rfl c2287 (E' rfl (n' (eq' (ih2 _ _ _ _ _ _ hh) rfl)))))))))))
   exact sk' (eq' (ih2 _ _ _ _ _ _ hh) rfl)
  cases hh
  exact ex' (t' rfl (re' (rq rfl)))
 ·intro g3 ih3 l margin x1 out i1 res hh
  refine S' (t' rfl (ci' rfl hh (fun hh=>?_) (fun hh=>?_)))
  ·obtain ⟨x4,hx4,hh⟩:=bs' hh
   obtain ⟨c2288,hh⟩:=N0 hh
   obtain ⟨c2289,hh⟩:=N0 hh
   obtain ⟨c2290,hh⟩:=N0 hh
   obtain ⟨c2291,hh⟩:=N0 hh
   obtain ⟨x5,hx5,hh⟩:=bs' hh
   obtain ⟨c2292,hh⟩:=N0 hh
   obtain ⟨c2293,hh⟩:=N0 hh
   exact AEx.draw hC 16 rfl rfl rfl (O' 3 rfl (Qc' (U5 hx4) rfl rfl (AQ.q hC rfl c2288 (AQ.q hC rfl c2289 (O' 2 rfl (AQ.q hC rfl c2290 (AQ.q hC rfl c2291 (O' 2 rfl (Qc' (I1d hx5) rfl rfl (AQ.q hC rfl c2292 (AQ.q hC rfl c2293 (E' rfl (n' (eq' (ih3 _ _ _ _ _ _ hh) rfl))))))))))))))
  exact sk' (eq' (ih3 _ _ _ _ _ _ hh) rfl)
 ·intro g4 ih4 l margin x1 out1 i2 res hh
  refine S' (t' rfl (ci' rfl hh (fun hh=>?_) (fun hh=>?_)))
  ·obtain ⟨x6,hx6,hh⟩:=bs' hh
   obtain ⟨c2294,hh⟩:=N0 hh
   obtain ⟨c2295,hh⟩:=N0 hh
   obtain ⟨c2296,hh⟩:=N0 hh
   obtain ⟨c2297,hh⟩:=N0 hh
   exact AEx.draw hC 11 rfl rfl rfl (O' 3 rfl (Qc' (U5 hx6) rfl rfl (AQ.q hC rfl c2294 (AQ.q hC rfl c2295 (O' 2 rfl (AQ.q hC rfl c2296 (AQ.q hC rfl c2297 (E' rfl (n' (eq' (ih4 _ _ _ _ _ _ hh) rfl))))))))))
  exact sk' (eq' (ih4 _ _ _ _ _ _ hh) rfl)
 ·intro g5 ih5 l margin x1 out2 i3 res hh
  refine S' (t' rfl (ci' rfl hh (fun hh=>?_) (fun hh=>?_)))
  ·obtain ⟨c2298,hh⟩:=N0 hh
   obtain ⟨x7,hx7,hh⟩:=bs' hh
   obtain ⟨c2299,hh⟩:=N0 hh
   obtain ⟨c2300,hh⟩:=N0 hh
   exact P' 1 rfl (qc' rfl c2298 (o' 2 rfl (cq (U5 hx7) rfl (qc' rfl c2299 (qc' rfl c2300 (e' rfl (eq' (ih5 _ _ _ _ _ _ hh) rfl)))))))
  exact sk' (eq' (ih5 _ _ _ _ _ _ hh) rfl)
 ·intro g6 ih6 l margin x1 out3 i4 res hh
  refine S' (t' rfl (ci' rfl hh (fun hh=>?_) (fun hh=>?_)))
  ·obtain ⟨c2301,hh⟩:=N0 hh
   obtain ⟨x8,hx8,hh⟩:=bs' hh
   obtain ⟨c2302,hh⟩:=N0 hh
   obtain ⟨c2303,hh⟩:=N0 hh
   exact P' 1 rfl (qc' rfl c2301 (o' 2 rfl (cq (U6 hx8) rfl (qc' rfl c2302 (qc' rfl c2303 (e' rfl (eq' (ih6 _ _ _ _ _ _ hh) rfl)))))))
  exact sk' (eq' (ih6 _ _ _ _ _ _ hh) rfl)
 ·intro g0 g7 g12 ih0 ih7 ih12 l margin x1 out4 i5 res hh
  refine S' (t' rfl (ci' rfl hh (fun hh=>?_) (fun hh=>?_)))
  ·obtain ⟨c2304,hh⟩:=N0 hh
   obtain ⟨x9,hx9,hh⟩:=bs' hh
   obtain ⟨c2305,hh⟩:=N0 hh
   obtain ⟨c2306,hh⟩:=N0 hh
   obtain ⟨c2307,hh⟩:=N0 hh
   obtain ⟨x16,hx16,hh⟩:=bs' hh
   obtain ⟨c2308,hh⟩:=N0 hh
   obtain ⟨c2309,hh⟩:=N0 hh
   obtain ⟨c2310,hh⟩:=N0 hh
   refine S' (AEx.draw hC 17 rfl rfl rfl (Q' rfl (AQ.q hC rfl c2304 (O' 2 rfl (Qc' (U5 hx9) rfl rfl (AQ.q hC rfl c2305 (AQ.q hC rfl c2306 (O' 3 rfl (AQ.q hC rfl c2307 (Qc' (ih0 _ _ _ hx16) rfl rfl (AQ.q hC rfl c2308 (Q' rfl (AQ.q hC rfl c2309 ?_)))))))))))))
   refine AQ.q hC rfl c2310 (E' rfl (n' (S' (p' 2 rfl (qe' rfl trivial (B0.lenA _) (e' rfl (ci' rfl hh (fun hh=>?_) (fun hh=>?_))))))))
   ·obtain ⟨c2311,hh⟩:=N0 hh
    obtain ⟨c2312,hh⟩:=N0 hh
    obtain ⟨x17,hx17,hh⟩:=bs' hh
    obtain ⟨c2313,hh⟩:=N0 hh
    obtain ⟨c2314,hh⟩:=N0 hh
    obtain ⟨c2315,hh⟩:=N0 hh
    exact P' 1 rfl (qc' rfl c2311 (o' 3 rfl (qc' rfl c2312 (cq (ih0 _ _ _ hx17) rfl (qc' rfl c2313 (q' rfl (qc' rfl c2314 (qc' rfl c2315 (e' rfl (eq' (ih12 _ _ _ _ _ _ hh) rfl))))))))))
   exact sk' (eq' (ih12 _ _ _ _ _ _ hh) rfl)
  exact sk' (eq' (ih7 _ _ _ _ _ _ hh) rfl)
 ·intro g0 g8 ih0 ih8 l margin x1 out6 i7 res hh
  refine S' (t' rfl (ci' rfl hh (fun hh=>?_) (fun hh=>?_)))
  ·obtain ⟨c2317,hh⟩:=N0 hh
   obtain ⟨x10,hx10,hh⟩:=bs' hh
   obtain ⟨c2318,hh⟩:=N0 hh
   obtain ⟨c2319,hh⟩:=N0 hh
   obtain ⟨x11,hx11,hh⟩:=bs' hh
   obtain ⟨c2320,hh⟩:=N0 hh
   obtain ⟨c2321,hh⟩:=N0 hh
   obtain ⟨c2322,hh⟩:=N0 hh
   obtain ⟨x18,hx18,hh⟩:=bs' hh
   obtain ⟨c2323,hh⟩:=N0 hh
   obtain ⟨c2324,hh⟩:=N0 hh
   obtain ⟨c2325,hh⟩:=N0 hh
   refine AEx.draw hC 22 rfl rfl rfl (Q' rfl (AQ.q hC rfl c2317 (O' 2 rfl (Qc' (U5 hx10) rfl rfl (AQ.q hC rfl c2318 (AQ.q hC rfl c2319 (O' 2 rfl (Qc' (U6 hx11) rfl rfl (AQ.q hC rfl c2320 (AQ.q hC rfl c2321 (O' 3 rfl (AQ.q hC rfl c2322 (Qc' (ih0 _ _ _ hx18) rfl rfl ?_)))))))))))))
   exact AQ.q hC rfl c2323 (Q' rfl (AQ.q hC rfl c2324 (AQ.q hC rfl c2325 (E' rfl (n' (eq' (ih8 _ _ _ _ _ _ hh) rfl))))))
  exact sk' (eq' (ih8 _ _ _ _ _ _ hh) rfl)
 ·intro g0 g9 ih0 ih9 l margin x1 out7 i8 res hh
  refine S' (t' rfl (ci' rfl hh (fun hh=>?_) (fun hh=>?_)))
  ·obtain ⟨c2326,hh⟩:=N0 hh
   obtain ⟨c2327,hh⟩:=N0 hh
   obtain ⟨c2328,hh⟩:=N0 hh
   obtain ⟨x12,hx12,hh⟩:=bs' hh
   obtain ⟨c2329,hh⟩:=N0 hh
   obtain ⟨c2330,hh⟩:=N0 hh
   obtain ⟨x13,hx13,hh⟩:=bs' hh
   obtain ⟨c2331,hh⟩:=N0 hh
   obtain ⟨c2332,hh⟩:=N0 hh
   obtain ⟨c2333,hh⟩:=N0 hh
   obtain ⟨x19,hx19,hh⟩:=bs' hh
   obtain ⟨c2334,hh⟩:=N0 hh
   obtain ⟨c2335,hh⟩:=N0 hh
   obtain ⟨c2336,hh⟩:=N0 hh
   refine AEx.draw hC 26 rfl rfl rfl (Q' rfl (AQ.q hC rfl c2326 (O' 2 rfl (AQ.q hC rfl c2327 (AQ.q hC rfl c2328 (O' 2 rfl (Qc' (U6 hx12) rfl rfl (AQ.q hC rfl c2329 (AQ.q hC rfl c2330 (O' 2 rfl (Qc' (U6 hx13) rfl rfl (AQ.q hC rfl c2331 (AQ.q hC rfl c2332 ?_)))))))))))))
   exact O' 3 rfl (AQ.q hC rfl c2333 (Qc' (ih0 _ _ _ hx19) rfl rfl (AQ.q hC rfl c2334 (Q' rfl (AQ.q hC rfl c2335 (AQ.q hC rfl c2336 (E' rfl (n' (eq' (ih9 _ _ _ _ _ _ hh) rfl)))))))))
  exact sk' (eq' (ih9 _ _ _ _ _ _ hh) rfl)
 ·intro g1 g10 ih1 ih10 l margin x1 out8 i9 res hh
  refine t' rfl (ci' rfl hh (fun hh=>?_) (fun hh=>?_))
  ·obtain ⟨c2337,hh⟩:=N0 hh
   exact p' 1 rfl (qc' rfl c2337 (e' rfl (S' (t' rfl (bk' (fq (ih10 _ _ _ _ _ _ _ hh) rfl))))))
  exact sk' (T' rfl (lq (ih1 _ _ _ _ _ hh) rfl))
 ·intro g1 g11 ih1 ih11 l margin x1 out10 i10 k res hh
  refine X0.unroll (S' (p' 3 rfl (qe' rfl trivial (ei64.lenA _) (e' rfl (ci' rfl hh (fun hh=>?_) (fun hh=>?_))))))
  ·refine sk' (S' (bk' (S' (t' rfl (ci' rfl hh (fun hh=>?_) (fun hh=>?_))))))
   ·obtain ⟨c2338,hh⟩:=N0 hh
    exact P' 1 rfl (qc' rfl c2338 (e' rfl (eq' (ih11 _ _ _ _ _ _ _ hh) rfl)))
   exact sk' (eq' (ih11 _ _ _ _ _ _ _ hh) rfl)
  obtain ⟨c2339,hh⟩:=N0 hh
  exact ex' (P' 1 rfl (qc' rfl c2339 (e' rfl (T' rfl (lq (ih1 _ _ _ _ _ hh) rfl)))))
 ·intro g10 ih10 l margin x1 out11 i10 k1 res hh
  obtain ⟨x14,hx14,hh⟩:=bs' hh
  obtain ⟨x15,hx15,hh⟩:=bs' hh
  obtain ⟨c2340,hh⟩:=N0 hh
  exact P' 4 rfl (i' rfl (Z0 hx14) (ei64.idx hx14) rfl (q' rfl (cq (U6 hx15) rfl (qc' rfl c2340 (e' rfl (T' rfl (lq (ih10 _ _ _ _ _ _ _ hh) rfl)))))))
 ·intro g7 ih7 l margin x1 out5 i6 res hh
  obtain ⟨c2316,hh⟩:=N0 hh
  exact P' 1 rfl (qc' rfl c2316 (e' rfl (eq' (ih7 _ _ _ _ _ _ hh) rfl)))
theorem S10 {l margin res}(hh:Jb l margin=some res):M13 l margin res:=(S1b).1 _ _ _ hh
def I8 (d:C0)(s2:Str)(i2:Int):Option Str:=
 if (decide (i2 < ((d.Vars).length:Int)))=true then
  if (decide (s2.length+1≤maxLen))=true then
   idx d.Vars i2>>=fun x5=>
   Hg x5>>=fun x6=>
   if (decide ((s2++[9]).length+x6.length≤maxLen))=true then
    I8 d ((s2++[9])++x6) (IntKind.i64.wrap (i2+1))
   else none
  else none
 else
  Jb d.Body [9]>>=fun x7=>
  if (decide (s2.length+x7.length≤maxLen))=true then
   if (decide ((s2++x7).length+8≤maxLen))=true then
    L1 d.Value>>=fun x8=>
    if (decide (((s2++x7)++[9,114,101,116,117,114,110,32]).length+x8.length≤maxLen))=true then
     if (decide ((((s2++x7)++[9,114,101,116,117,114,110,32])++x8).length+4≤maxLen))=true then
      some ((((s2++x7)++[9,114,101,116,117,114,110,32])++x8)++[59,10,125,10])
     else none
    else none
   else none
  else none
 partial_fixpoint
abbrev Mq (d:C0)(s2:Str)(i2:Int)(res:Str):Prop:=LM C 72 0 Tryz.f101 [1,1,1,1,0,1,4] [(1,.ref 0 0),(3,.d (.str s2)),(5,.d (.int .i64 i2))] [.row (C0.cells d) 128] (Ret [] (.d (.str res)))
theorem T10 (d:C0):(∀ s2 i2 res,I8 d s2 i2=some res→Mq d s2 i2 res):=by
 refine I8.partial_correctness d _ ?_
 ·intro g0 ih0 s2 i2 res hh
  refine X0.unroll (S' (p' 3 rfl (qe' rfl trivial (C0.lenA _) (e' rfl (ci' rfl hh (fun hh=>?_) (fun hh=>?_))))))
  ·obtain ⟨c94,hh⟩:=N0 hh
   obtain ⟨x5,hx5,hh⟩:=bs' hh
   obtain ⟨x6,hx6,hh⟩:=bs' hh
   obtain ⟨c95,hh⟩:=N0 hh
   exact sk' (S' (bk' (P' 1 rfl (qc' rfl c94 (o' 3 rfl (i' rfl (Z0 hx5) (C0.idx hx5) rfl (q' rfl (cq (Nu hx6) rfl (qc' rfl c95 (e' rfl (T' rfl (lq (ih0 _ _ _ hh) rfl))))))))))))
  obtain ⟨x7,hx7,hh⟩:=bs' hh
  obtain ⟨c96,hh⟩:=N0 hh
  obtain ⟨c97,hh⟩:=N0 hh
  obtain ⟨x8,hx8,hh⟩:=bs' hh
  obtain ⟨c98,hh⟩:=N0 hh
  obtain ⟨c99,hh⟩:=N0 hh
  cases hh
  exact ex' (S' (AEx.draw hC 12 rfl rfl rfl (O' 3 rfl (Qc' (S10 hx7) rfl rfl (AQ.q hC rfl c96 (AQ.q hC rfl c97 (O' 2 rfl (Qc' (U5 hx8) rfl rfl (AQ.q hC rfl c98 (AQ.q hC rfl c99 (E' rfl (n' (re' (rq rfl))))))))))))))
theorem R12 {d s2 i2 res}(hh:I8 d s2 i2=some res):Mq d s2 i2 res:=(T10 d) _ _ _ hh
mutual
def J8 (d:C0)(s:Str)(i:Int):Option Str:=
 if (decide (i < ((d.Params).length:Int)))=true then
  if (decide (i > 0))=true then
   if (decide (s.length+2≤maxLen))=true then
    Uf d (s++[44,32]) i
   else none
  else
   Uf d s i
 else
  if (decide (s.length+3≤maxLen))=true then
   T2 d.TypeV>>=fun x4=>
   if (decide ((s++[41,58,32]).length+x4.length≤maxLen))=true then
    if (decide (((s++[41,58,32])++x4).length+3≤maxLen))=true then
     I8 d (((s++[41,58,32])++x4)++[32,123,10]) 0
    else none
   else none
  else none
 partial_fixpoint
def Uf (d:C0)(s1:Str)(i1:Int):Option Str:=
 idx d.Params i1>>=fun x1=>
 if (decide (s1.length+x1.Name.length≤maxLen))=true then
  if (decide ((s1++x1.Name).length+2≤maxLen))=true then
   idx d.Params i1>>=fun x2=>
   T2 x2.TypeV>>=fun x3=>
   if (decide (((s1++x1.Name)++[58,32]).length+x3.length≤maxLen))=true then
    J8 d (((s1++x1.Name)++[58,32])++x3) (IntKind.i64.wrap (i1+1))
   else none
  else none
 else none
 partial_fixpoint
end
abbrev Nq (d:C0)(s:Str)(i:Int)(res:Str):Prop:=LM C 72 0 Tryz.f101 [1,1,0,1,4] [(1,.ref 0 0),(3,.d (.str s)),(4,.d (.int .i64 i))] [.row (C0.cells d) 128] (Ret [] (.d (.str res)))
abbrev Z14 (d:C0)(s1:Str)(i1:Int)(res:Str):Prop:=JM C 72 0 Tryz.f101 [1,1,0,1,4,5,1,0,4,1] [(1,.ref 0 0),(3,.d (.str s1)),(4,.d (.int .i64 i1))] [.row (C0.cells d) 128] (Ret [] (.d (.str res)))
theorem U10 (d:C0):(∀ s i res,J8 d s i=some res→Nq d s i res)∧(∀ s1 i1 res,Uf d s1 i1=some res→Z14 d s1 i1 res):=by
 refine J8.mutual_partial_correctness d _ _ ?_ ?_
 ·intro g1 ih1 s i res hh
  refine X0.unroll (S' (p' 3 rfl (qe' rfl trivial (C0.lenA _) (e' rfl (ci' rfl hh (fun hh=>?_) (fun hh=>?_))))))
  ·refine sk' (S' (bk' (S' (t' rfl (ci' rfl hh (fun hh=>?_) (fun hh=>?_))))))
   ·obtain ⟨c87,hh⟩:=N0 hh
    exact P' 1 rfl (qc' rfl c87 (e' rfl (eq' (ih1 _ _ _ hh) rfl)))
   exact sk' (eq' (ih1 _ _ _ hh) rfl)
  obtain ⟨c88,hh⟩:=N0 hh
  obtain ⟨x4,hx4,hh⟩:=bs' hh
  obtain ⟨c89,hh⟩:=N0 hh
  obtain ⟨c90,hh⟩:=N0 hh
  exact ex' (p' 1 rfl (qc' rfl c88 (o' 2 rfl (cq (E8 hx4) rfl (qc' rfl c89 (qc' rfl c90 (e' rfl (S' (t' rfl (bk' (fq (R12 hh) rfl)))))))))))
 ·intro g0 ih0 s1 i1 res hh
  obtain ⟨x1,hx1,hh⟩:=bs' hh
  obtain ⟨c91,hh⟩:=N0 hh
  obtain ⟨c92,hh⟩:=N0 hh
  obtain ⟨x2,hx2,hh⟩:=bs' hh
  obtain ⟨x3,hx3,hh⟩:=bs' hh
  obtain ⟨c93,hh⟩:=N0 hh
  exact AEx.draw hC 18 rfl rfl rfl (O' 4 rfl (AQ.i hC rfl (Z0 hx1) (C0.idx hx1) rfl (O' 2 rfl (AQ.q hC rfl c91 (AQ.q hC rfl c92 (O' 3 rfl (AQ.i hC rfl (Z0 hx2) (C0.idx hx2) rfl (O' 2 rfl (Qc' (E8 hx3) rfl rfl (AQ.q hC rfl c93 (E' rfl (n' (T' rfl (lq (ih0 _ _ _ hh) rfl))))))))))))))
theorem S12 {d s i res}(hh:J8 d s i=some res):Nq d s i res:=(U10 d).1 _ _ _ hh
def Dj (d:C0):Option Str:=
 if (decide (5+d.Name.length≤maxLen))=true then
  if (decide (([102,117,110,99,32]++d.Name).length+1≤maxLen))=true then
   J8 d (([102,117,110,99,32]++d.Name)++[40]) 0
  else none
 else none
theorem L18 {d res}(hh:Dj d=some res):P0 C 101 [.agg (C0.cells d)] [] (Ret [] (.d (.str res))):=by
 unfold Dj at hh
 obtain ⟨c85,hh⟩:=N0 hh
 obtain ⟨c86,hh⟩:=N0 hh
 exact P0.intro hC Tryz.func101 rfl rfl rfl (s' rfl rfl (F0.n hC rfl (e' rfl (p' 2 rfl (qc' rfl c85 (qc' rfl c86 (e' rfl (S' (t' rfl (bk' (fq (S12 hh) rfl)))))))))))
mutual
def R9 (p:O0)(s6:Str)(i:Int):Option Str:=
 if (decide (i < ((p.Decls).length:Int)))=true then
  idx p.Decls i>>=fun x1=>
  if (x1.Kind == 0)=true then
   if (decide (s6.length+5≤maxLen))=true then
    if (decide ((s6++[116,121,112,101,32]).length+x1.Name.length≤maxLen))=true then
     if (decide (((s6++[116,121,112,101,32])++x1.Name).length+3≤maxLen))=true then
      T2 x1.TypeV>>=fun x2=>
      if (decide ((((s6++[116,121,112,101,32])++x1.Name)++[32,61,32]).length+x2.length≤maxLen))=true then
       if (decide (((((s6++[116,121,112,101,32])++x1.Name)++[32,61,32])++x2).length+2≤maxLen))=true then
        S9 p x1 (((((s6++[116,121,112,101,32])++x1.Name)++[32,61,32])++x2)++[59,10]) i
       else none
      else none
     else none
    else none
   else none
  else
   S9 p x1 s6 i
 else
  if (decide (s6.length+6≤maxLen))=true then
   Jb p.Body [9]>>=fun x10=>
   if (decide ((s6++[98,101,103,105,110,10]).length+x10.length≤maxLen))=true then
    if (decide (((s6++[98,101,103,105,110,10])++x10).length+4≤maxLen))=true then
     some (((s6++[98,101,103,105,110,10])++x10)++[101,110,100,10])
    else none
   else none
  else none
 partial_fixpoint
def S9 (p:O0)(x1:C0)(s:Str)(i1:Int):Option Str:=
 if (x1.Kind == 1)=true then
  if (decide (s.length+7≤maxLen))=true then
   if (decide ((s++[115,101,99,114,101,116,32]).length+x1.Name.length≤maxLen))=true then
    if (decide (((s++[115,101,99,114,101,116,32])++x1.Name).length+2≤maxLen))=true then
     T2 x1.TypeV>>=fun x3=>
     if (decide ((((s++[115,101,99,114,101,116,32])++x1.Name)++[58,32]).length+x3.length≤maxLen))=true then
      if (decide (((((s++[115,101,99,114,101,116,32])++x1.Name)++[58,32])++x3).length+2≤maxLen))=true then
       T9 p x1 (((((s++[115,101,99,114,101,116,32])++x1.Name)++[58,32])++x3)++[59,10]) i1
      else none
     else none
    else none
   else none
  else none
 else
  T9 p x1 s i1
 partial_fixpoint
def T9 (p:O0)(x1:C0)(s1:Str)(i2:Int):Option Str:=
 if (x1.Kind == 2)=true then
  if (decide (s1.length+7≤maxLen))=true then
   if (decide ((s1++[112,117,98,108,105,99,32]).length+x1.Name.length≤maxLen))=true then
    if (decide (((s1++[112,117,98,108,105,99,32])++x1.Name).length+2≤maxLen))=true then
     T2 x1.TypeV>>=fun x4=>
     if (decide ((((s1++[112,117,98,108,105,99,32])++x1.Name)++[58,32]).length+x4.length≤maxLen))=true then
      if (decide (((((s1++[112,117,98,108,105,99,32])++x1.Name)++[58,32])++x4).length+2≤maxLen))=true then
       U9 p x1 (((((s1++[112,117,98,108,105,99,32])++x1.Name)++[58,32])++x4)++[59,10]) i2
      else none
     else none
    else none
   else none
  else none
 else
  U9 p x1 s1 i2
 partial_fixpoint
def U9 (p:O0)(x1:C0)(s2:Str)(i3:Int):Option Str:=
 if (x1.Kind == 3)=true then
  if (decide (s2.length+7≤maxLen))=true then
   if (decide ((s2++[114,97,110,100,111,109,32]).length+x1.Name.length≤maxLen))=true then
    if (decide (((s2++[114,97,110,100,111,109,32])++x1.Name).length+2≤maxLen))=true then
     T2 x1.TypeV>>=fun x5=>
     if (decide ((((s2++[114,97,110,100,111,109,32])++x1.Name)++[58,32]).length+x5.length≤maxLen))=true then
      if (decide (((((s2++[114,97,110,100,111,109,32])++x1.Name)++[58,32])++x5).length+2≤maxLen))=true then
       V9 p x1 (((((s2++[114,97,110,100,111,109,32])++x1.Name)++[58,32])++x5)++[59,10]) i3
      else none
     else none
    else none
   else none
  else none
 else
  V9 p x1 s2 i3
 partial_fixpoint
def V9 (p:O0)(x1:C0)(s3:Str)(i4:Int):Option Str:=
 if (x1.Kind == 4)=true then
  Hg x1>>=fun x6=>
  if (decide (s3.length+x6.length≤maxLen))=true then
   W9 p x1 (s3++x6) i4
  else none
 else
  W9 p x1 s3 i4
 partial_fixpoint
def W9 (p:O0)(x1:C0)(s4:Str)(i5:Int):Option Str:=
 if (x1.Kind == 5)=true then
  if (decide (s4.length+6≤maxLen))=true then
   if (decide ((s4++[104,97,116,99,104,32]).length+x1.Name.length≤maxLen))=true then
    if (decide (((s4++[104,97,116,99,104,32])++x1.Name).length+2≤maxLen))=true then
     T2 x1.TypeV>>=fun x7=>
     if (decide ((((s4++[104,97,116,99,104,32])++x1.Name)++[58,32]).length+x7.length≤maxLen))=true then
      if (decide (((((s4++[104,97,116,99,104,32])++x1.Name)++[58,32])++x7).length+3≤maxLen))=true then
       L1 x1.Value>>=fun x8=>
       if (decide ((((((s4++[104,97,116,99,104,32])++x1.Name)++[58,32])++x7)++[32,61,32]).length+x8.length≤maxLen))=true then
        if (decide (((((((s4++[104,97,116,99,104,32])++x1.Name)++[58,32])++x7)++[32,61,32])++x8).length+2≤maxLen))=true then
         X9 p x1 (((((((s4++[104,97,116,99,104,32])++x1.Name)++[58,32])++x7)++[32,61,32])++x8)++[59,10]) i5
        else none
       else none
      else none
     else none
    else none
   else none
  else none
 else
  X9 p x1 s4 i5
 partial_fixpoint
def X9 (p:O0)(x1:C0)(s5:Str)(i6:Int):Option Str:=
 if (x1.Kind == 6)=true then
  Dj x1>>=fun x9=>
  if (decide (s5.length+x9.length≤maxLen))=true then
   R9 p (s5++x9) (IntKind.i64.wrap (i6+1))
  else none
 else
  R9 p s5 (IntKind.i64.wrap (i6+1))
 partial_fixpoint
end
abbrev Dy (p:O0)(s6:Str)(i:Int)(res:Str):Prop:=LM C 114 0 Tryz.f54 [1,1,0,1,4] [(1,.ref 0 0),(3,.d (.str s6)),(4,.d (.int .i64 i))] [.row (O0.cells p) 49] (Ret [] (.d (.str res)))
abbrev T1b (p:O0)(x1:C0)(s:Str)(i1:Int)(res:Str):Prop:=JM C 114 0 Tryz.f54 [1,1,0,1,4,5,1,0,4,1,1] [(1,.ref 0 0),(3,.d (.str s)),(4,.d (.int .i64 i1)),(5,.ref 1 0)] [.row (O0.cells p) 49,.row (C0.cells x1) 128] (Ret [] (.d (.str res)))
abbrev U1b (p:O0)(x1:C0)(s1:Str)(i2:Int)(res:Str):Prop:=JM C 114 0 Tryz.f54 [1,1,0,1,4,5,1,0,4,1,1,1] [(1,.ref 0 0),(3,.d (.str s1)),(4,.d (.int .i64 i2)),(5,.ref 1 0)] [.row (O0.cells p) 49,.row (C0.cells x1) 128] (Ret [] (.d (.str res)))
abbrev V1b (p:O0)(x1:C0)(s2:Str)(i3:Int)(res:Str):Prop:=JM C 114 0 Tryz.f54 [1,1,0,1,4,5,1,0,4,1,1,1,1] [(1,.ref 0 0),(3,.d (.str s2)),(4,.d (.int .i64 i3)),(5,.ref 1 0)] [.row (O0.cells p) 49,.row (C0.cells x1) 128] (Ret [] (.d (.str res)))
abbrev W1b (p:O0)(x1:C0)(s3:Str)(i4:Int)(res:Str):Prop:=JM C 114 0 Tryz.f54 [1,1,0,1,4,5,1,0,4,1,1,1,1,1] [(1,.ref 0 0),(3,.d (.str s3)),(4,.d (.int .i64 i4)),(5,.ref 1 0)] [.row (O0.cells p) 49,.row (C0.cells x1) 128] (Ret [] (.d (.str res)))
abbrev X1b (p:O0)(x1:C0)(s4:Str)(i5:Int)(res:Str):Prop:=JM C 114 0 Tryz.f54 [1,1,0,1,4,5,1,0,4,1,1,1,1,1,1] [(1,.ref 0 0),(3,.d (.str s4)),(4,.d (.int .i64 i5)),(5,.ref 1 0)] [.row (O0.cells p) 49,.row (C0.cells x1) 128] (Ret [] (.d (.str res)))
abbrev Y1b (p:O0)(x1:C0)(s5:Str)(i6:Int)(res:Str):Prop:=JM C 114 0 Tryz.f54 [1,1,0,1,4,5,1,0,4,1,1,1,1,1,1,1] [(1,.ref 0 0),(3,.d (.str s5)),(4,.d (.int .i64 i6)),(5,.ref 1 0)] [.row (O0.cells p) 49,.row (C0.cells x1) 128] (Ret [] (.d (.str res)))
theorem M18 (p:O0):(∀ s6 i res,R9 p s6 i=some res→Dy p s6 i res)∧(∀ x1 s i1 res,S9 p x1 s i1=some res→T1b p x1 s i1 res)∧(∀ x1 s1 i2 res,T9 p x1 s1 i2=some res→U1b p x1 s1 i2 res)∧(∀ x1 s2 i3 res,U9 p x1 s2 i3=some res→V1b p x1 s2 i3 res)∧(∀ x1 s3 i4 res,V9 p x1 s3 i4=some res→W1b p x1 s3 i4 res)∧(∀ x1 s4 i5 res,W9 p x1 s4 i5=some res→X1b p x1 s4 i5 res)∧(∀ x1 s5 i6 res,X9 p x1 s5 i6=some res→Y1b p x1 s5 i6 res):=by
 refine R9.mutual_partial_correctness p _ _ _ _ _ _ _ ?_ ?_ ?_ ?_ ?_ ?_ ?_
 ·intro g1 ih1 s6 i res hh
  refine X0.unroll (S' (p' 3 rfl (qe' rfl trivial (C0.lenA _) (e' rfl (ci' rfl hh (fun hh=>?_) (fun hh=>?_))))))
  ·obtain ⟨x1,hx1,hh⟩:=bs' hh
   refine sk' (S' (bk' (p' 3 rfl (i' rfl (Z0 hx1) (C0.idx hx1) rfl (q' rfl (F0.nf hC rfl (F0.s hC rfl (n' (S' (t' rfl (ci' rfl hh (fun hh=>?_) (fun hh=>?_))))))))))))
   ·obtain ⟨c603,hh⟩:=N0 hh
    obtain ⟨c604,hh⟩:=N0 hh
    obtain ⟨c605,hh⟩:=N0 hh
    obtain ⟨x2,hx2,hh⟩:=bs' hh
    obtain ⟨c606,hh⟩:=N0 hh
    obtain ⟨c607,hh⟩:=N0 hh
    exact AEx.draw hC 12 rfl rfl rfl (Q' rfl (AQ.q hC rfl c603 (O' 2 rfl (AQ.q hC rfl c604 (AQ.q hC rfl c605 (O' 2 rfl (Qc' (E8 hx2) rfl rfl (AQ.q hC rfl c606 (AQ.q hC rfl c607 (E' rfl (n' (eq' (ih1 _ _ _ _ hh) rfl))))))))))))
   exact sk' (eq' (ih1 _ _ _ _ hh) rfl)
  obtain ⟨c608,hh⟩:=N0 hh
  obtain ⟨x10,hx10,hh⟩:=bs' hh
  obtain ⟨c609,hh⟩:=N0 hh
  obtain ⟨c610,hh⟩:=N0 hh
  cases hh
  exact ex' (p' 1 rfl (qc' rfl c608 (o' 2 rfl (cq (S10 hx10) rfl (qc' rfl c609 (qc' rfl c610 (e' rfl (re' (rq rfl)))))))))
 ·intro g2 ih2 x1 s i1 res hh
  refine S' (t' rfl (ci' rfl hh (fun hh=>?_) (fun hh=>?_)))
  ·obtain ⟨c611,hh⟩:=N0 hh
   obtain ⟨c612,hh⟩:=N0 hh
   obtain ⟨c613,hh⟩:=N0 hh
   obtain ⟨x3,hx3,hh⟩:=bs' hh
   obtain ⟨c614,hh⟩:=N0 hh
   obtain ⟨c615,hh⟩:=N0 hh
   exact AEx.draw hC 12 rfl rfl rfl (Q' rfl (AQ.q hC rfl c611 (O' 2 rfl (AQ.q hC rfl c612 (AQ.q hC rfl c613 (O' 2 rfl (Qc' (E8 hx3) rfl rfl (AQ.q hC rfl c614 (AQ.q hC rfl c615 (E' rfl (n' (eq' (ih2 _ _ _ _ hh) rfl))))))))))))
  exact sk' (eq' (ih2 _ _ _ _ hh) rfl)
 ·intro g3 ih3 x1 s1 i2 res hh
  refine S' (t' rfl (ci' rfl hh (fun hh=>?_) (fun hh=>?_)))
  ·obtain ⟨c616,hh⟩:=N0 hh
   obtain ⟨c617,hh⟩:=N0 hh
   obtain ⟨c618,hh⟩:=N0 hh
   obtain ⟨x4,hx4,hh⟩:=bs' hh
   obtain ⟨c619,hh⟩:=N0 hh
   obtain ⟨c620,hh⟩:=N0 hh
   exact AEx.draw hC 12 rfl rfl rfl (Q' rfl (AQ.q hC rfl c616 (O' 2 rfl (AQ.q hC rfl c617 (AQ.q hC rfl c618 (O' 2 rfl (Qc' (E8 hx4) rfl rfl (AQ.q hC rfl c619 (AQ.q hC rfl c620 (E' rfl (n' (eq' (ih3 _ _ _ _ hh) rfl))))))))))))
  exact sk' (eq' (ih3 _ _ _ _ hh) rfl)
 ·intro g4 ih4 x1 s2 i3 res hh
  refine S' (t' rfl (ci' rfl hh (fun hh=>?_) (fun hh=>?_)))
  ·obtain ⟨c621,hh⟩:=N0 hh
   obtain ⟨c622,hh⟩:=N0 hh
   obtain ⟨c623,hh⟩:=N0 hh
   obtain ⟨x5,hx5,hh⟩:=bs' hh
   obtain ⟨c624,hh⟩:=N0 hh
   obtain ⟨c625,hh⟩:=N0 hh
   exact AEx.draw hC 12 rfl rfl rfl (Q' rfl (AQ.q hC rfl c621 (O' 2 rfl (AQ.q hC rfl c622 (AQ.q hC rfl c623 (O' 2 rfl (Qc' (E8 hx5) rfl rfl (AQ.q hC rfl c624 (AQ.q hC rfl c625 (E' rfl (n' (eq' (ih4 _ _ _ _ hh) rfl))))))))))))
  exact sk' (eq' (ih4 _ _ _ _ hh) rfl)
 ·intro g5 ih5 x1 s3 i4 res hh
  refine S' (t' rfl (ci' rfl hh (fun hh=>?_) (fun hh=>?_)))
  ·obtain ⟨x6,hx6,hh⟩:=bs' hh
   obtain ⟨c626,hh⟩:=N0 hh
   exact P' 2 rfl (cq (Nu hx6) rfl (qc' rfl c626 (e' rfl (eq' (ih5 _ _ _ _ hh) rfl))))
  exact sk' (eq' (ih5 _ _ _ _ hh) rfl)
 ·intro g6 ih6 x1 s4 i5 res hh
  refine S' (t' rfl (ci' rfl hh (fun hh=>?_) (fun hh=>?_)))
  ·obtain ⟨c627,hh⟩:=N0 hh
   obtain ⟨c628,hh⟩:=N0 hh
   obtain ⟨c629,hh⟩:=N0 hh
   obtain ⟨x7,hx7,hh⟩:=bs' hh
   obtain ⟨c630,hh⟩:=N0 hh
   obtain ⟨c631,hh⟩:=N0 hh
   obtain ⟨x8,hx8,hh⟩:=bs' hh
   obtain ⟨c632,hh⟩:=N0 hh
   obtain ⟨c633,hh⟩:=N0 hh
   refine AEx.draw hC 17 rfl rfl rfl (Q' rfl (AQ.q hC rfl c627 (O' 2 rfl (AQ.q hC rfl c628 (AQ.q hC rfl c629 (O' 2 rfl (Qc' (E8 hx7) rfl rfl (AQ.q hC rfl c630 (AQ.q hC rfl c631 (O' 2 rfl (Qc' (U5 hx8) rfl rfl (AQ.q hC rfl c632 (AQ.q hC rfl c633 ?_)))))))))))))
   exact E' rfl (n' (eq' (ih6 _ _ _ _ hh) rfl))
  exact sk' (eq' (ih6 _ _ _ _ hh) rfl)
 ·intro g0 ih0 x1 s5 i6 res hh
  refine t' rfl (ci' rfl hh (fun hh=>?_) (fun hh=>?_))
  ·obtain ⟨x9,hx9,hh⟩:=bs' hh
   obtain ⟨c634,hh⟩:=N0 hh
   exact P' 2 rfl (cq (L18 hx9) rfl (qc' rfl c634 (e' rfl (T' rfl (lq (ih0 _ _ _ hh) rfl)))))
  exact sk' (T' rfl (lq (ih0 _ _ _ hh) rfl))
theorem Z19 {p s6 i res}(hh:R9 p s6 i=some res):Dy p s6 i res:=(M18 p).1 _ _ _ hh
def Yu (p:O0):Option Str:=
 R9 p [] 0
theorem U1f {p res}(hh:Yu p=some res):P0 C 54 [.agg (O0.cells p)] [] (Ret [] (.d (.str res))):=by
 unfold Yu at hh
 exact P0.intro hC Tryz.func54 rfl rfl rfl (s' rfl rfl (F0.n hC rfl (e' rfl (t' rfl (S' (t' rfl (bk' (fq (Z19 hh) rfl))))))))
def En (p:O0):Option (Str×Int):=
 Bn p>>=fun x1=>
 if (x1 != 0)=true then
  some ([],x1)
 else
  Yu p>>=fun x2=>
  Vm x2>>=fun x3=>
  some (x3.1,x3.2)
theorem J1d {p res}(hh:En p=some res):P0 C 25 [.agg (O0.cells p)] [] (Ret [] (.tup [.d (.str res.1),.d (.int .i64 res.2)])):=by
 unfold En at hh
 obtain ⟨x1,hx1,hh⟩:=bs' hh
 refine P0.intro hC Tryz.func25 rfl rfl rfl (s' rfl rfl (F0.n hC rfl (e' rfl (p' 1 rfl (cq (G1d hx1) rfl (e' rfl (S' (t' rfl (ci' rfl hh (fun hh=>?_) (fun hh=>?_))))))))))
 ·cases hh
  exact t' rfl (re' (rq rfl))
 obtain ⟨x2,hx2,hh⟩:=bs' hh
 obtain ⟨x3,hx3,hh⟩:=bs' hh
 cases hh
 exact sk' (p' 1 rfl (cq (U1f hx2) rfl (cq (D1d hx3) rfl (e' rfl (re' (rq rfl))))))
def Zg (p:O0):Option Bool:=
 Uk>>=fun x1=>
 if (!x1)=true then
  some false
 else
  Gt p 400>>=fun x2=>
  if (!x2)=true then
   some true
  else
   En p>>=fun x3=>
   if (x3.2 != 0)=true then
    some true
   else
    Wi x3.1>>=fun x4=>
    (if (bif (x4.2.2 == 0) then (x4.2.1 == 0) else false)=true then Cn p x4.1 else some default)>>=fun x5=>
    some (bif (bif (x4.2.2 == 0) then (x4.2.1 == 0) else false) then x5 else false)
theorem Ez {p res}(hh:Zg p=some res):P0 C 7 [.agg (O0.cells p)] [] (Ret [] (.d (.bool res))):=by
 unfold Zg at hh
 obtain ⟨x1,hx1,hh⟩:=bs' hh
 refine P0.intro hC Tryz.func7 rfl rfl rfl (s' rfl rfl (F0.n hC rfl (e' rfl (S' (s' rfl rfl (cq (B1d hx1) rfl (e' rfl (ci' rfl hh (fun hh=>?_) (fun hh=>?_)))))))))
 ·cases hh
  exact t' rfl (re' (rq rfl))
 obtain ⟨x2,hx2,hh⟩:=bs' hh
 refine sk' (S' (p' 1 rfl (cq (N1h hx2) rfl (e' rfl (ci' rfl hh (fun hh=>?_) (fun hh=>?_))))))
 ·cases hh
  exact t' rfl (re' (rq rfl))
 obtain ⟨x3,hx3,hh⟩:=bs' hh
 refine sk' (p' 1 rfl (cq (J1d hx3) rfl (e' rfl (S' (t' rfl (ci' rfl hh (fun hh=>?_) (fun hh=>?_)))))))
 ·cases hh
  exact t' rfl (re' (rq rfl))
 obtain ⟨x4,hx4,hh⟩:=bs' hh
 obtain ⟨x5,hx5,hh⟩:=bs' hh
 cases hh
 refine sk' (p' 1 rfl (cq (R1b hx4) rfl (o' 4 rfl (F0.nf hC rfl (F0.s hC rfl (e' rfl (sg' 12 rfl (G' 4 rfl (a1' rfl (pa' rfl (G' 3 rfl (AG.c rfl rfl (fun hg=>⟨hg,hg,trivial⟩) (fun hw=>H1d (V1 hw hx5)) (pa' rfl ?_)))))))))))))
 exact a0' rfl (an' (n' (re' (rq rfl))))
end Go.Proofs.YtmnhfbekncjnfaaGreatDoor

