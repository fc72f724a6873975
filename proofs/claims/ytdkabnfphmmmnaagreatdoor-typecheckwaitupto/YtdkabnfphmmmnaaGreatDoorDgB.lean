/- A part of the proof of TypecheckWait. -/
import Derived.Test.YtdkabnfphmmmnaaGreatDoorDgA
set_option maxRecDepth 100000
set_option maxHeartbeats 4000000
set_option synthInstance.maxSize 20000
set_option linter.unusedVariables false
namespace Go.Proofs.YtdkabnfphmmmnaaGreatDoor
open Go.Am
mutual
def I2 (c:O0)(m0:List (Int×Int))(scalars:Int)(hatches1:Int)(v23:Int):Option Int:=
 if (decide (v23 < ((c.p.Decls).length:Int)))=true then
  idx c.p.Decls v23>>=fun x1=>
  some (Z7 x1.Kind m0)>>=fun x2=>
  if (x1.Kind == 5)=true then
   H6 c m0 x1 scalars (IntKind.i64.wrap (hatches1+1)) v23 x2 v23
  else
   H6 c m0 x1 scalars hatches1 v23 x2 v23
 else
  Qf c.p>>=fun x5=>
  if (decide (scalars > 64))=true then
   if (decide (scalars > 64))=true then
    some 4
   else
    some 0
  else
   if (decide (hatches1 > 8))=true then
    if (decide (hatches1 > 8))=true then
     some 4
    else
     some 0
   else
    some (Z7 1 m0)>>=fun x6=>
    if (decide ((x6.getD ei64.zero) > 4096))=true then
     if (decide ((x6.getD ei64.zero) > 4096))=true then
      some 4
     else
      some 0
    else
     some (Z7 2 m0)>>=fun x7=>
     if (decide ((x7.getD ei64.zero) > 4096))=true then
      if (decide ((x7.getD ei64.zero) > 4096))=true then
       some 4
      else
       some 0
     else
      some (Z7 3 m0)>>=fun x8=>
      if (decide ((x8.getD ei64.zero) > 256))=true then
       if (decide ((x8.getD ei64.zero) > 256))=true then
        some 4
       else
        some 0
      else
       if (decide (x5.steps > 4096))=true then
        if (decide (x5.steps > 4096))=true then
         some 4
        else
         some 0
       else
        if (decide (x5.outputs > 8))=true then
         some 4
        else
         some 0
 partial_fixpoint
def H6 (c:O0)(m01:List (Int×Int))(x1:B0)(scalars1:Int)(hatches:Int)(i:Int)(x2:Option Int)(v231:Int):Option Int:=
 if (bif (!x2.isSome) then (x1.Kind != 4) else false)=true then
  I2 c m01 scalars1 hatches (IntKind.i64.wrap (v231+1))
 else
  Y2 c x1.TypeV i>>=fun x3=>
  Xl x3>>=fun x4=>
  V3 c m01 x1 (IntKind.i64.wrap (scalars1+((x4.1).length:Int))) hatches (x2.getD ei64.zero) x2 v231 x4 0
 partial_fixpoint
def V3 (c:O0)(m02:List (Int×Int))(x1:B0)(scalars2:Int)(hatches:Int)(n:Int)(x2:Option Int)(v231:Int)(x4:List R0×Int)(v62:Int):Option Int:=
 if (decide (v62 < ((x4.1).length:Int)))=true then
  idx x4.1 v62>>=fun x9=>
  if x2.isSome=true then
   Xe n (IntKind.i64.wrap ((IntKind.i64.wrap (x9.High - x9.Low))+1))>>=fun x10=>
   V3 c m02 x1 scalars2 hatches x10 x2 v231 x4 (IntKind.i64.wrap (v62+1))
  else
   V3 c m02 x1 scalars2 hatches n x2 v231 x4 (IntKind.i64.wrap (v62+1))
 else
  if x2.isSome=true then
   I2 c (Kr x1.Kind n m02) scalars2 hatches (IntKind.i64.wrap (v231+1))
  else
   I2 c m02 scalars2 hatches (IntKind.i64.wrap (v231+1))
 partial_fixpoint
end
abbrev Jj (c:O0)(m0:List (Int×Int))(scalars:Int)(hatches1:Int)(v23:Int)(res:Int):Prop:=LM C 107 0 Tryz.f33 [1,1,1,0,1,4] [(0,.d (.box (O0.row c))),(3,.d (.int .i64 scalars)),(4,.d (.int .i64 hatches1)),(5,.mp 0),(21,.d (.sl (B0.rows c.p.Decls))),(22,.d (.int .i64 ((c.p.Decls).length:Int))),(23,.d (.int .i64 v23))] [.map (.i .i64 (ei64.entsI m0))] (Ret [] (.d (.int .i64 res)))
abbrev Dt (c:O0)(m01:List (Int×Int))(x1:B0)(scalars1:Int)(hatches:Int)(i:Int)(x2:Option Int)(v231:Int)(res:Int):Prop:=JM C 107 0 Tryz.f33 [1,1,1,0,1,4,5,1,1,0,4,1,1,1] [(0,.d (.box (O0.row c))),(3,.d (.int .i64 scalars1)),(4,.d (.int .i64 hatches)),(5,.mp 0),(6,.d (.int .i64 i)),(7,.ref 1 0),(8,.d (.int .i64 (x2.getD ei64.zero))),(9,.d (.bool x2.isSome)),(21,.d (.sl (B0.rows c.p.Decls))),(22,.d (.int .i64 ((c.p.Decls).length:Int))),(23,.d (.int .i64 v231))] [.map (.i .i64 (ei64.entsI m01)),.row (B0.cells x1) 59] (Ret [] (.d (.int .i64 res)))
abbrev Et (c:O0)(m02:List (Int×Int))(x1:B0)(scalars2:Int)(hatches:Int)(n:Int)(x2:Option Int)(v231:Int)(x4:List R0×Int)(v62:Int)(res:Int):Prop:=LM C 107 0 Tryz.f33 [1,1,1,0,1,4,5,1,1,0,4,1,1,1,1,1,1,0,1,4] [(0,.d (.box (O0.row c))),(3,.d (.int .i64 scalars2)),(4,.d (.int .i64 hatches)),(5,.mp 0),(7,.ref 1 0),(8,.d (.int .i64 n)),(9,.d (.bool x2.isSome)),(21,.d (.sl (B0.rows c.p.Decls))),(22,.d (.int .i64 ((c.p.Decls).length:Int))),(23,.d (.int .i64 v231)),(60,.d (.sl (R0.rows x4.1))),(61,.d (.int .i64 ((x4.1).length:Int))),(62,.d (.int .i64 v62))] [.map (.i .i64 (ei64.entsI m02)),.row (B0.cells x1) 59] (Ret [] (.d (.int .i64 res)))
theorem Br (c:O0):(∀ m0 scalars hatches1 v23 res,I2 c m0 scalars hatches1 v23=some res→Jj c m0 scalars hatches1 v23 res)∧(∀ m01 x1 scalars1 hatches i x2 v231 res,H6 c m01 x1 scalars1 hatches i x2 v231=some res→Dt c m01 x1 scalars1 hatches i x2 v231 res)∧(∀ m02 x1 scalars2 hatches n x2 v231 x4 v62 res,V3 c m02 x1 scalars2 hatches n x2 v231 x4 v62=some res→Et c m02 x1 scalars2 hatches n x2 v231 x4 v62 res):=by
 refine I2.mutual_partial_correctness c _ _ _ ?_ ?_ ?_
 ·intro g1 ih1 m0 scalars hatches1 v23 res hh
  refine W0.unroll (t' rfl (S' (ci' rfl hh (fun hh=>?_) (fun hh=>?_))))
  ·obtain ⟨x1,hx1,hh⟩:=bs' hh
   obtain ⟨x2,hx2,hh⟩:=bs' hh
   refine sk' (S' (bk' (p' 1 rfl (i' rfl (U0 hx1) (B0.idx hx1) rfl (q' rfl (E0.nf hC rfl (q' rfl (E0.s hC rfl (n' (p' 3 rfl (E0.mi hC rfl (ei64.lkIT hx2) (e' rfl (S' ?_)))))))))))))
   refine t' rfl (ci' rfl hh (fun hh=>?_) (fun hh=>?_))
   ·exact T' rfl (ew' (ih1 _ _ _ _ _ _ _ _ hh) rfl rfl rfl)
   exact sk' (ew' (ih1 _ _ _ _ _ _ _ _ hh) rfl rfl rfl)
  obtain ⟨x5,hx5,hh⟩:=bs' hh
  refine ex' (p' 4 rfl (c' (Wr hx5) rfl rfl (E0.n hC rfl (E0.s hC rfl (n' (S' (bk' (S' (t' rfl (ci' rfl hh (fun hh=>?_) (fun hh=>?_)))))))))))
  ·refine sk' (ci' rfl hh (fun hh=>?_) (fun hh=>?_))
   ·cases hh
    exact t' rfl (re' (rt' rfl rfl rfl))
   cases hh
   exact sk' (t' rfl (re' (rt' rfl rfl rfl)))
  refine t' rfl (ci' rfl hh (fun hh=>?_) (fun hh=>?_))
  ·refine sk' (ci' rfl hh (fun hh=>?_) (fun hh=>?_))
   ·cases hh
    exact t' rfl (re' (rt' rfl rfl rfl))
   cases hh
   exact sk' (t' rfl (re' (rt' rfl rfl rfl)))
  obtain ⟨x6,hx6,hh⟩:=bs' hh
  refine p' 1 rfl (E0.mi hC rfl (ei64.lkI hx6) (e' rfl (ci' rfl hh (fun hh=>?_) (fun hh=>?_))))
  ·refine sk' (ci' rfl hh (fun hh=>?_) (fun hh=>?_))
   ·cases hh
    exact t' rfl (re' (rt' rfl rfl rfl))
   cases hh
   exact sk' (t' rfl (re' (rt' rfl rfl rfl)))
  obtain ⟨x7,hx7,hh⟩:=bs' hh
  refine p' 1 rfl (E0.mi hC rfl (ei64.lkI hx7) (e' rfl (ci' rfl hh (fun hh=>?_) (fun hh=>?_))))
  ·refine sk' (ci' rfl hh (fun hh=>?_) (fun hh=>?_))
   ·cases hh
    exact t' rfl (re' (rt' rfl rfl rfl))
   cases hh
   exact sk' (t' rfl (re' (rt' rfl rfl rfl)))
  obtain ⟨x8,hx8,hh⟩:=bs' hh
  refine p' 1 rfl (E0.mi hC rfl (ei64.lkI hx8) (e' rfl (ci' rfl hh (fun hh=>?_) (fun hh=>?_))))
  ·refine sk' (ci' rfl hh (fun hh=>?_) (fun hh=>?_))
   ·cases hh
    exact t' rfl (re' (rt' rfl rfl rfl))
   cases hh
   exact sk' (t' rfl (re' (rt' rfl rfl rfl)))
  refine t' rfl (ci' rfl hh (fun hh=>?_) (fun hh=>?_))
  ·refine sk' (ci' rfl hh (fun hh=>?_) (fun hh=>?_))
   ·cases hh
    exact t' rfl (re' (rt' rfl rfl rfl))
   cases hh
   exact sk' (t' rfl (re' (rt' rfl rfl rfl)))
  refine T' rfl (ci' rfl hh (fun hh=>?_) (fun hh=>?_))
  ·cases hh
   exact t' rfl (re' (rt' rfl rfl rfl))
  cases hh
  exact sk' (t' rfl (re' (rt' rfl rfl rfl)))
 ·intro g0 g2 ih0 ih2 m01 x1 scalars1 hatches i x2 v231 res hh
  refine S' (sg' 7 rfl (G' 4 rfl (a1' rfl (a1' rfl (pa' rfl (an' (n' (ci' rfl hh (fun hh=>?_) (fun hh=>?_)))))))))
  ·exact ex' (T' rfl (lw' (ih0 _ _ _ _ _ hh) rfl rfl rfl))
  obtain ⟨x3,hx3,hh⟩:=bs' hh
  obtain ⟨x4,hx4,hh⟩:=bs' hh
  exact sk' (p' 4 rfl (c' (Q5 hx3) rfl rfl (c' (C1g hx4) rfl rfl (e' rfl (p' 2 rfl (qe' rfl trivial (R0.lenA _) (e' rfl (S' (p' 1 rfl (qe' rfl trivial (R0.lenA _) (e' rfl (bk' (fw' (ih2 _ _ _ _ _ _ _ _ _ _ hh) rfl rfl rfl)))))))))))))
 ·intro g0 g2 ih0 ih2 m02 x1 scalars2 hatches n x2 v231 x4 v62 res hh
  refine W0.unroll (t' rfl (S' (ci' rfl hh (fun hh=>?_) (fun hh=>?_))))
  ·obtain ⟨x9,hx9,hh⟩:=bs' hh
   refine sk' (S' (bk' (s' rfl rfl (i' rfl (U0 hx9) (R0.idx hx9) rfl (q' rfl (E0.n hC rfl (E0.s hC rfl (n' (t' rfl (ci' rfl hh (fun hh=>?_) (fun hh=>?_)))))))))))
   ·obtain ⟨x10,hx10,hh⟩:=bs' hh
    exact P' 7 rfl (c' (On hx10) rfl rfl (e' rfl (T' rfl (lw' (ih2 _ _ _ _ _ _ _ _ _ _ hh) rfl rfl rfl))))
   exact sk' (T' rfl (lw' (ih2 _ _ _ _ _ _ _ _ _ _ hh) rfl rfl rfl))
  refine ex' (t' rfl (ci' rfl hh (fun hh=>?_) (fun hh=>?_)))
  ·exact P' 4 rfl (E0.ui hC rfl (ei64.mputI _ n _) rfl (n' (T' rfl (lw' (ih0 _ _ _ _ _ hh) rfl rfl rfl))))
  exact sk' (T' rfl (lw' (ih0 _ _ _ _ _ hh) rfl rfl rfl))
theorem Xr {c m0 scalars hatches1 v23 res}(hh:I2 c m0 scalars hatches1 v23=some res):Jj c m0 scalars hatches1 v23 res:=(Br c).1 _ _ _ _ _ hh
def Gc (c:O0):Option Int:=
 I2 c (Kr 3 1 (Kr 2 1 (Kr 1 1 []))) 0 0 0
theorem Hv {c res}(hh:Gc c=some res):L0 C 33 [.d (.box (O0.row c))] [] (Ret [] (.d (.int .i64 res))):=by
 unfold Gc at hh
 exact L0.intro hC Tryz.func33 rfl rfl rfl (t' rfl (t' rfl (s' rfl rfl (E0.wi .i64 rfl (E0.ui hC rfl (ei64.mputI _ 1 []) rfl (E0.ui hC rfl (ei64.mputI _ 1 _) rfl (E0.ui hC rfl (ei64.mputI _ 1 _) rfl (e' rfl (S' (p' 5 rfl (qe' rfl trivial (B0.lenA _) (e' rfl (bk' (fw' (Xr hh) rfl rfl rfl))))))))))))))
def D5 (p:F0)(x3:O0)(v46:Int):Option (Int×Int):=
 if (decide (v46 < ((p.Decls).length:Int)))=true then
  Ja x3 v46>>=fun x5=>
  if (x5 != 0)=true then
   some (v46,x5)
  else
   D5 p x3 (IntKind.i64.wrap (v46+1))
 else
  N4 x3 ((p.Decls).length:Int) true>>=fun x6=>
  E2 x3 x6 p.Body true>>=fun x7=>
  if (x7 != 0)=true then
   some ((-1),x7)
  else
   Gc x3>>=fun x8=>
   some ((-1),x8)
 partial_fixpoint
abbrev Yr (p:F0)(x3:O0)(v46:Int)(res:Int×Int):Prop:=LM C 71 0 Tryz.f13 [1,1,1,1,1,0,1,4] [(1,.ref 0 0),(5,.d (.box (O0.row x3))),(45,.d (.int .i64 ((p.Decls).length:Int))),(46,.d (.int .i64 v46))] [.row (F0.cells p) 25] (Ret [] (.tup [.d (.int .i64 res.1),.d (.int .i64 res.2)]))
theorem K12 (p:F0)(x3:O0):(∀ v46 res,D5 p x3 v46=some res→Yr p x3 v46 res):=by
 refine D5.partial_correctness p x3 _ ?_
 ·intro g0 ih0 v46 res hh
  refine W0.unroll (t' rfl (S' (ci' rfl hh (fun hh=>?_) (fun hh=>?_))))
  ·obtain ⟨x5,hx5,hh⟩:=bs' hh
   refine sk' (S' (bk' (t' rfl (p' 2 rfl (c' (Qx hx5) rfl rfl (e' rfl (t' rfl (ci' rfl hh (fun hh=>?_) (fun hh=>?_)))))))))
   ·cases hh
    exact t' rfl (re' (rt' rfl rfl rfl))
   exact sk' (T' rfl (lw' (ih0 _ _ hh) rfl rfl rfl))
  obtain ⟨x6,hx6,hh⟩:=bs' hh
  obtain ⟨x7,hx7,hh⟩:=bs' hh
  refine ex' (S' (S' (AEx.draw hC 10 rfl rfl rfl (O' 4 rfl (AQ.qe hC rfl trivial (B0.lenA _) (Qc' (X0 hx6) rfl rfl (O' 2 rfl (Qc' (Vl hx7) rfl rfl (E' rfl (n' (t' rfl (ci' rfl hh (fun hh=>?_) (fun hh=>?_)))))))))))))
  ·cases hh
   exact t' rfl (re' (rt' rfl rfl rfl))
  obtain ⟨x8,hx8,hh⟩:=bs' hh
  cases hh
  exact sk' (p' 1 rfl (c' (Hv hx8) rfl rfl (e' rfl (re' (rt' rfl rfl rfl)))))
theorem X13 {p x3 v46 res}(hh:D5 p x3 v46=some res):Yr p x3 v46 res:=(K12 p x3) _ _ hh
def I6 (p:F0)(m1:List (Str×Bool))(v27:Int):Option (Int×Int):=
 if (decide (v27 < ((p.Decls).length:Int)))=true then
  idx p.Decls v27>>=fun x2=>
  I6 p (mpt x2.Name true m1) (IntKind.i64.wrap (v27+1))
 else
  some (O0.mk p ((p.Decls).length:Int) false m1)>>=fun x3=>
  G6 x3>>=fun x4=>
  if (decide (x4≥0))=true then
   some (x4,8)
  else
   D5 p x3 0
 partial_fixpoint
abbrev Zr (p:F0)(m1:List (Str×Bool))(v27:Int)(res:Int×Int):Prop:=LM C 71 0 Tryz.f13 [1,1,1,0,1,4] [(1,.ref 0 0),(5,.ref 2 0),(25,.d (.sl (B0.rows p.Decls))),(26,.d (.int .i64 ((p.Decls).length:Int))),(27,.d (.int .i64 v27))] [.row (F0.cells p) 25,.map (.s (ebool.ents m1)),.row [.d (.sl (B0.rows p.Decls)),.d (.sl (C0.rows p.Body)),.d (.int .i64 ((p.Decls).length:Int)),.d (.bool false),.mp 1] 66] (Ret [] (.tup [.d (.int .i64 res.1),.d (.int .i64 res.2)]))
theorem L12 (p:F0):(∀ m1 v27 res,I6 p m1 v27=some res→Zr p m1 v27 res):=by
 refine I6.partial_correctness p _ ?_
 ·intro g0 ih0 m1 v27 res hh
  refine W0.unroll (t' rfl (S' (ci' rfl hh (fun hh=>?_) (fun hh=>?_))))
  ·obtain ⟨x2,hx2,hh⟩:=bs' hh
   exact sk' (S' (bk' (s' rfl rfl (i' rfl (U0 hx2) (B0.idx hx2) rfl (q' rfl (E0.nf hC rfl (E0.s hC rfl (n' (AEx.draw hC 6 rfl rfl rfl (E' rfl (E0.ue hC rfl (ebool.mput _ true _) rfl (n' (T' rfl (lw' (ih0 _ _ _ hh) rfl rfl rfl))))))))))))))
  obtain ⟨x3,hx3,hh⟩:=bs' hh
  obtain ⟨x4,hx4,hh⟩:=bs' hh
  refine ex' (S' (p' 1 rfl (E0.fm 1 rfl rfl (E0.bx 2 (y:=.box (O0.row x3)) (by cases hx3; exact .inl rfl) rfl rfl rfl (c' (Tr hx4) rfl rfl (e' rfl (t' rfl (ci' rfl hh (fun hh=>?_) (fun hh=>?_)))))))))
  ·cases hh
   exact t' rfl (re' (rt' rfl rfl rfl))
  exact sk' (S' (p' 2 rfl (qe' rfl trivial (B0.lenA _) (e' rfl (bk' (fw' (X13 hh) rfl rfl rfl))))))
theorem Y13 {p m1 v27 res}(hh:I6 p m1 v27=some res):Zr p m1 v27 res:=(L12 p) _ _ _ hh
def Z3 (p:F0):Option (Int×Int):=
 Kn p>>=fun x1=>
 if (x1 != 0)=true then
  some ((-1),x1)
 else
  I6 p [] 0
theorem Za {p res}(hh:Z3 p=some res):L0 C 13 [.agg (F0.cells p)] [] (Ret [] (.tup [.d (.int .i64 res.1),.d (.int .i64 res.2)])):=by
 unfold Z3 at hh
 obtain ⟨x1,hx1,hh⟩:=bs' hh
 refine L0.intro hC Tryz.func13 rfl rfl rfl (s' rfl rfl (E0.n hC rfl (e' rfl (S' (p' 1 rfl (c' (Z1i hx1) rfl rfl (e' rfl (t' rfl (ci' rfl hh (fun hh=>?_) (fun hh=>?_))))))))))
 ·cases hh
  exact t' rfl (re' (rt' rfl rfl rfl))
 exact sk' (p' 3 rfl (qe' rfl trivial (B0.lenA _) (E0.w rfl (q' rfl (E0.n hC rfl (e' rfl (S' (p' 2 rfl (qe' rfl trivial (B0.lenA _) (e' rfl (bk' (fw' (Y13 hh) rfl rfl rfl))))))))))))
def Eh (e:D0):Option Int:=
 I3 e 1 (I0.mk 0 0 false false false)>>=fun x1=>
 F6 x1>>=fun x2=>
 some x2
theorem H18 {e res}(hh:Eh e=some res):L0 C 41 [.agg (D0.cells e)] [] (Ret [] (.d (.int .i64 res))):=by
 unfold Eh at hh
 obtain ⟨x1,hx1,hh⟩:=bs' hh
 obtain ⟨x2,hx2,hh⟩:=bs' hh
 cases hh
 exact L0.intro hC Tryz.func41 rfl rfl rfl (s' rfl rfl (E0.n hC rfl (e' rfl (p' 1 rfl (E0.n hC rfl (e' rfl (p' 2 rfl (g' [1] (Xj hx1) rfl rfl rfl rfl rfl rfl (n' (p' 1 rfl (g' [1] (Zj hx2) rfl rfl rfl rfl rfl rfl (e' rfl (re' (rt' rfl rfl rfl))))))))))))))
def Fh (p:F0)(e:D0):Option (A0×Int):=
 Z3 p>>=fun x1=>
 if (x1.2 != 0)=true then
  some ((A0.mk 0 0 0 0 [] [] []),x1.2)
 else
  Eh e>>=fun x2=>
  if (x2 != 0)=true then
   some ((A0.mk 0 0 0 0 [] [] []),x2)
  else
   some (O0.mk p 0 false [])>>=fun x3=>
   N4 x3 ((p.Decls).length:Int) true>>=fun x4=>
   O3 x4 e>>=fun x5=>
   some (x5.1,x5.2)
theorem I18 {p e res}(hh:Fh p e=some res):L0 C 16 [.agg (F0.cells p),.agg (D0.cells e)] [] (Ret [] (.tup [.agg (A0.cells res.1),.d (.int .i64 res.2)])):=by
 unfold Fh at hh
 obtain ⟨x1,hx1,hh⟩:=bs' hh
 refine L0.intro hC Tryz.func16 rfl rfl rfl (s' rfl rfl (E0.n hC rfl (E0.n hC rfl (E0.nf hC rfl (e' rfl (S' (p' 1 rfl (c' (Za hx1) rfl rfl (e' rfl (t' rfl (ci' rfl hh (fun hh=>?_) (fun hh=>?_))))))))))))
 ·cases hh
  exact p' 2 rfl (E0.s hC rfl (e' rfl (re' (rt' rfl rfl rfl))))
 obtain ⟨x2,hx2,hh⟩:=bs' hh
 refine sk' (S' (p' 1 rfl (c' (H18 hx2) rfl rfl (e' rfl (t' rfl (ci' rfl hh (fun hh=>?_) (fun hh=>?_)))))))
 ·cases hh
  exact p' 2 rfl (E0.s hC rfl (e' rfl (re' (rt' rfl rfl rfl))))
 obtain ⟨x3,hx3,hh⟩:=bs' hh
 obtain ⟨x4,hx4,hh⟩:=bs' hh
 obtain ⟨x5,hx5,hh⟩:=bs' hh
 refine sk' (p' 2 rfl (E0.n hC rfl (e' rfl (S' (AEx.drawE hC ?_)))))
 refine S0.step rfl (j0:=0) (js:=[1,5]) (by kernel_rfl) ⟨⟨_,rfl,?_⟩,⟨_,rfl,?_⟩,⟨_,rfl,?_⟩,trivial⟩
 ·refine e' rfl ?_
  refine S0.step rfl (j0:=1) (js:=[5]) (by kernel_rfl) ⟨⟨_,rfl,?_⟩,⟨_,rfl,?_⟩,trivial⟩
  ·refine e' rfl ?_
   refine S0.step rfl (j0:=2) (js:=[5]) (by kernel_rfl) ⟨⟨_,rfl,?_⟩,⟨_,rfl,?_⟩,trivial⟩
   ·refine e' rfl ?_
    refine S0.step rfl (j0:=3) (js:=[5]) (by kernel_rfl) ⟨⟨_,rfl,?_⟩,⟨_,rfl,?_⟩,trivial⟩
    ·refine qe' rfl trivial (B0.lenA _) (n' ?_)
     refine S0.step rfl (j0:=4) (js:=[5]) (by kernel_rfl) ⟨⟨_,rfl,?_⟩,⟨_,rfl,?_⟩,trivial⟩
     ·refine E0.bx 3 (y:=.box (O0.row x3)) (by cases hx3; exact .inl rfl) rfl rfl rfl (c' (X0 hx4) rfl rfl (n' ?_))
      refine S0.step rfl (j0:=5) (js:=[]) (by kernel_rfl) ⟨⟨_,rfl,?_⟩,trivial⟩
      refine e' rfl ?_
      refine S0.step rfl (j0:=6) (js:=[]) (by kernel_rfl) ⟨⟨_,rfl,?_⟩,trivial⟩
      refine c' (F1 hx5) rfl rfl (n' ?_)
      refine S0.step rfl (j0:=7) (js:=[8]) (by kernel_rfl) ⟨⟨_,rfl,?_⟩,⟨_,rfl,?_⟩,trivial⟩
      ·refine e' rfl ?_
       refine S0.step rfl (j0:=8) (js:=[]) (by kernel_rfl) ⟨⟨_,rfl,?_⟩,trivial⟩
       refine e' rfl ?_
       refine S0.step rfl (j0:=9) (js:=[]) (by kernel_rfl) ⟨⟨_,rfl,?_⟩,trivial⟩
       refine E0.s hC rfl (n' ?_)
       refine S0.step rfl (j0:=10) (js:=[]) (by kernel_rfl) ⟨⟨_,rfl,?_⟩,trivial⟩
       cases hh
       exact e' rfl (S0.nil (by kernel_rfl) (re' (rt' rfl rfl rfl)))
      ·refine e' rfl ?_
       refine S0.step rfl (j0:=7) (js:=[]) (by kernel_rfl) ⟨⟨_,rfl,?_⟩,trivial⟩
       refine e' rfl ?_
       refine S0.step rfl (j0:=9) (js:=[]) (by kernel_rfl) ⟨⟨_,rfl,?_⟩,trivial⟩
       refine E0.s hC rfl (n' ?_)
       refine S0.step rfl (j0:=10) (js:=[]) (by kernel_rfl) ⟨⟨_,rfl,?_⟩,trivial⟩
       cases hh
       exact e' rfl (S0.nil (by kernel_rfl) (re' (rt' rfl rfl rfl)))
     ·refine e' rfl ?_
      refine S0.step rfl (j0:=4) (js:=[]) (by kernel_rfl) ⟨⟨_,rfl,?_⟩,trivial⟩
      refine E0.bx 3 (y:=.box (O0.row x3)) (by cases hx3; exact .inl rfl) rfl rfl rfl (c' (X0 hx4) rfl rfl (n' ?_))
      refine S0.step rfl (j0:=6) (js:=[]) (by kernel_rfl) ⟨⟨_,rfl,?_⟩,trivial⟩
      refine c' (F1 hx5) rfl rfl (n' ?_)
      refine S0.step rfl (j0:=7) (js:=[8]) (by kernel_rfl) ⟨⟨_,rfl,?_⟩,⟨_,rfl,?_⟩,trivial⟩
      ·refine e' rfl ?_
       refine S0.step rfl (j0:=8) (js:=[]) (by kernel_rfl) ⟨⟨_,rfl,?_⟩,trivial⟩
       refine e' rfl ?_
       refine S0.step rfl (j0:=9) (js:=[]) (by kernel_rfl) ⟨⟨_,rfl,?_⟩,trivial⟩
       refine E0.s hC rfl (n' ?_)
       refine S0.step rfl (j0:=10) (js:=[]) (by kernel_rfl) ⟨⟨_,rfl,?_⟩,trivial⟩
       cases hh
       exact e' rfl (S0.nil (by kernel_rfl) (re' (rt' rfl rfl rfl)))
      ·refine e' rfl ?_
       refine S0.step rfl (j0:=7) (js:=[]) (by kernel_rfl) ⟨⟨_,rfl,?_⟩,trivial⟩
       refine e' rfl ?_
       refine S0.step rfl (j0:=9) (js:=[]) (by kernel_rfl) ⟨⟨_,rfl,?_⟩,trivial⟩
       refine E0.s hC rfl (n' ?_)
       refine S0.step rfl (j0:=10) (js:=[]) (by kernel_rfl) ⟨⟨_,rfl,?_⟩,trivial⟩
       cases hh
       exact e' rfl (S0.nil (by kernel_rfl) (re' (rt' rfl rfl rfl)))
    ·refine e' rfl ?_
     refine S0.step rfl (j0:=3) (js:=[]) (by kernel_rfl) ⟨⟨_,rfl,?_⟩,trivial⟩
     refine qe' rfl trivial (B0.lenA _) (n' ?_)
     refine S0.step rfl (j0:=4) (js:=[]) (by kernel_rfl) ⟨⟨_,rfl,?_⟩,trivial⟩
     refine E0.bx 3 (y:=.box (O0.row x3)) (by cases hx3; exact .inl rfl) rfl rfl rfl (c' (X0 hx4) rfl rfl (n' ?_))
     refine S0.step rfl (j0:=6) (js:=[]) (by kernel_rfl) ⟨⟨_,rfl,?_⟩,trivial⟩
     refine c' (F1 hx5) rfl rfl (n' ?_)
     refine S0.step rfl (j0:=7) (js:=[8]) (by kernel_rfl) ⟨⟨_,rfl,?_⟩,⟨_,rfl,?_⟩,trivial⟩
     ·refine e' rfl ?_
      refine S0.step rfl (j0:=8) (js:=[]) (by kernel_rfl) ⟨⟨_,rfl,?_⟩,trivial⟩
      refine e' rfl ?_
      refine S0.step rfl (j0:=9) (js:=[]) (by kernel_rfl) ⟨⟨_,rfl,?_⟩,trivial⟩
      refine E0.s hC rfl (n' ?_)
      refine S0.step rfl (j0:=10) (js:=[]) (by kernel_rfl) ⟨⟨_,rfl,?_⟩,trivial⟩
      cases hh
      exact e' rfl (S0.nil (by kernel_rfl) (re' (rt' rfl rfl rfl)))
     ·refine e' rfl ?_
      refine S0.step rfl (j0:=7) (js:=[]) (by kernel_rfl) ⟨⟨_,rfl,?_⟩,trivial⟩
      refine e' rfl ?_
      refine S0.step rfl (j0:=9) (js:=[]) (by kernel_rfl) ⟨⟨_,rfl,?_⟩,trivial⟩
      refine E0.s hC rfl (n' ?_)
      refine S0.step rfl (j0:=10) (js:=[]) (by kernel_rfl) ⟨⟨_,rfl,?_⟩,trivial⟩
      cases hh
      exact e' rfl (S0.nil (by kernel_rfl) (re' (rt' rfl rfl rfl)))
   ·refine e' rfl ?_
    refine S0.step rfl (j0:=2) (js:=[]) (by kernel_rfl) ⟨⟨_,rfl,?_⟩,trivial⟩
    refine e' rfl ?_
    refine S0.step rfl (j0:=3) (js:=[]) (by kernel_rfl) ⟨⟨_,rfl,?_⟩,trivial⟩
    refine qe' rfl trivial (B0.lenA _) (n' ?_)
    refine S0.step rfl (j0:=4) (js:=[]) (by kernel_rfl) ⟨⟨_,rfl,?_⟩,trivial⟩
    refine E0.bx 3 (y:=.box (O0.row x3)) (by cases hx3; exact .inl rfl) rfl rfl rfl (c' (X0 hx4) rfl rfl (n' ?_))
    refine S0.step rfl (j0:=6) (js:=[]) (by kernel_rfl) ⟨⟨_,rfl,?_⟩,trivial⟩
    refine c' (F1 hx5) rfl rfl (n' ?_)
    refine S0.step rfl (j0:=7) (js:=[8]) (by kernel_rfl) ⟨⟨_,rfl,?_⟩,⟨_,rfl,?_⟩,trivial⟩
    ·refine e' rfl ?_
     refine S0.step rfl (j0:=8) (js:=[]) (by kernel_rfl) ⟨⟨_,rfl,?_⟩,trivial⟩
     refine e' rfl ?_
     refine S0.step rfl (j0:=9) (js:=[]) (by kernel_rfl) ⟨⟨_,rfl,?_⟩,trivial⟩
     refine E0.s hC rfl (n' ?_)
     refine S0.step rfl (j0:=10) (js:=[]) (by kernel_rfl) ⟨⟨_,rfl,?_⟩,trivial⟩
     cases hh
     exact e' rfl (S0.nil (by kernel_rfl) (re' (rt' rfl rfl rfl)))
    ·refine e' rfl ?_
     refine S0.step rfl (j0:=7) (js:=[]) (by kernel_rfl) ⟨⟨_,rfl,?_⟩,trivial⟩
     refine e' rfl ?_
     refine S0.step rfl (j0:=9) (js:=[]) (by kernel_rfl) ⟨⟨_,rfl,?_⟩,trivial⟩
     refine E0.s hC rfl (n' ?_)
     refine S0.step rfl (j0:=10) (js:=[]) (by kernel_rfl) ⟨⟨_,rfl,?_⟩,trivial⟩
     cases hh
     exact e' rfl (S0.nil (by kernel_rfl) (re' (rt' rfl rfl rfl)))
  ·refine e' rfl ?_
   refine S0.step rfl (j0:=1) (js:=[]) (by kernel_rfl) ⟨⟨_,rfl,?_⟩,trivial⟩
   refine e' rfl ?_
   refine S0.step rfl (j0:=2) (js:=[]) (by kernel_rfl) ⟨⟨_,rfl,?_⟩,trivial⟩
   refine e' rfl ?_
   refine S0.step rfl (j0:=3) (js:=[]) (by kernel_rfl) ⟨⟨_,rfl,?_⟩,trivial⟩
   refine qe' rfl trivial (B0.lenA _) (n' ?_)
   refine S0.step rfl (j0:=4) (js:=[]) (by kernel_rfl) ⟨⟨_,rfl,?_⟩,trivial⟩
   refine E0.bx 3 (y:=.box (O0.row x3)) (by cases hx3; exact .inl rfl) rfl rfl rfl (c' (X0 hx4) rfl rfl (n' ?_))
   refine S0.step rfl (j0:=6) (js:=[]) (by kernel_rfl) ⟨⟨_,rfl,?_⟩,trivial⟩
   refine c' (F1 hx5) rfl rfl (n' ?_)
   refine S0.step rfl (j0:=7) (js:=[8]) (by kernel_rfl) ⟨⟨_,rfl,?_⟩,⟨_,rfl,?_⟩,trivial⟩
   ·refine e' rfl ?_
    refine S0.step rfl (j0:=8) (js:=[]) (by kernel_rfl) ⟨⟨_,rfl,?_⟩,trivial⟩
    refine e' rfl ?_
    refine S0.step rfl (j0:=9) (js:=[]) (by kernel_rfl) ⟨⟨_,rfl,?_⟩,trivial⟩
    refine E0.s hC rfl (n' ?_)
    refine S0.step rfl (j0:=10) (js:=[]) (by kernel_rfl) ⟨⟨_,rfl,?_⟩,trivial⟩
    cases hh
    exact e' rfl (S0.nil (by kernel_rfl) (re' (rt' rfl rfl rfl)))
   ·refine e' rfl ?_
    refine S0.step rfl (j0:=7) (js:=[]) (by kernel_rfl) ⟨⟨_,rfl,?_⟩,trivial⟩
    refine e' rfl ?_
    refine S0.step rfl (j0:=9) (js:=[]) (by kernel_rfl) ⟨⟨_,rfl,?_⟩,trivial⟩
    refine E0.s hC rfl (n' ?_)
    refine S0.step rfl (j0:=10) (js:=[]) (by kernel_rfl) ⟨⟨_,rfl,?_⟩,trivial⟩
    cases hh
    exact e' rfl (S0.nil (by kernel_rfl) (re' (rt' rfl rfl rfl)))
 ·refine e' rfl ?_
  refine S0.step rfl (j0:=0) (js:=[2,5]) (by kernel_rfl) ⟨⟨_,rfl,?_⟩,⟨_,rfl,?_⟩,⟨_,rfl,?_⟩,trivial⟩
  ·refine e' rfl ?_
   refine S0.step rfl (j0:=2) (js:=[5]) (by kernel_rfl) ⟨⟨_,rfl,?_⟩,⟨_,rfl,?_⟩,trivial⟩
   ·refine e' rfl ?_
    refine S0.step rfl (j0:=3) (js:=[5]) (by kernel_rfl) ⟨⟨_,rfl,?_⟩,⟨_,rfl,?_⟩,trivial⟩
    ·refine qe' rfl trivial (B0.lenA _) (n' ?_)
     refine S0.step rfl (j0:=4) (js:=[5]) (by kernel_rfl) ⟨⟨_,rfl,?_⟩,⟨_,rfl,?_⟩,trivial⟩
     ·refine E0.bx 3 (y:=.box (O0.row x3)) (by cases hx3; exact .inl rfl) rfl rfl rfl (c' (X0 hx4) rfl rfl (n' ?_))
      refine S0.step rfl (j0:=5) (js:=[]) (by kernel_rfl) ⟨⟨_,rfl,?_⟩,trivial⟩
      refine e' rfl ?_
      refine S0.step rfl (j0:=6) (js:=[]) (by kernel_rfl) ⟨⟨_,rfl,?_⟩,trivial⟩
      refine c' (F1 hx5) rfl rfl (n' ?_)
      refine S0.step rfl (j0:=7) (js:=[8]) (by kernel_rfl) ⟨⟨_,rfl,?_⟩,⟨_,rfl,?_⟩,trivial⟩
      ·refine e' rfl ?_
       refine S0.step rfl (j0:=8) (js:=[]) (by kernel_rfl) ⟨⟨_,rfl,?_⟩,trivial⟩
       refine e' rfl ?_
       refine S0.step rfl (j0:=9) (js:=[]) (by kernel_rfl) ⟨⟨_,rfl,?_⟩,trivial⟩
       refine E0.s hC rfl (n' ?_)
       refine S0.step rfl (j0:=10) (js:=[]) (by kernel_rfl) ⟨⟨_,rfl,?_⟩,trivial⟩
       cases hh
       exact e' rfl (S0.nil (by kernel_rfl) (re' (rt' rfl rfl rfl)))
      ·refine e' rfl ?_
       refine S0.step rfl (j0:=7) (js:=[]) (by kernel_rfl) ⟨⟨_,rfl,?_⟩,trivial⟩
       refine e' rfl ?_
       refine S0.step rfl (j0:=9) (js:=[]) (by kernel_rfl) ⟨⟨_,rfl,?_⟩,trivial⟩
       refine E0.s hC rfl (n' ?_)
       refine S0.step rfl (j0:=10) (js:=[]) (by kernel_rfl) ⟨⟨_,rfl,?_⟩,trivial⟩
       cases hh
       exact e' rfl (S0.nil (by kernel_rfl) (re' (rt' rfl rfl rfl)))
     ·refine e' rfl ?_
      refine S0.step rfl (j0:=4) (js:=[]) (by kernel_rfl) ⟨⟨_,rfl,?_⟩,trivial⟩
      refine E0.bx 3 (y:=.box (O0.row x3)) (by cases hx3; exact .inl rfl) rfl rfl rfl (c' (X0 hx4) rfl rfl (n' ?_))
      refine S0.step rfl (j0:=6) (js:=[]) (by kernel_rfl) ⟨⟨_,rfl,?_⟩,trivial⟩
      refine c' (F1 hx5) rfl rfl (n' ?_)
      refine S0.step rfl (j0:=7) (js:=[8]) (by kernel_rfl) ⟨⟨_,rfl,?_⟩,⟨_,rfl,?_⟩,trivial⟩
      ·refine e' rfl ?_
       refine S0.step rfl (j0:=8) (js:=[]) (by kernel_rfl) ⟨⟨_,rfl,?_⟩,trivial⟩
       refine e' rfl ?_
       refine S0.step rfl (j0:=9) (js:=[]) (by kernel_rfl) ⟨⟨_,rfl,?_⟩,trivial⟩
       refine E0.s hC rfl (n' ?_)
       refine S0.step rfl (j0:=10) (js:=[]) (by kernel_rfl) ⟨⟨_,rfl,?_⟩,trivial⟩
       cases hh
       exact e' rfl (S0.nil (by kernel_rfl) (re' (rt' rfl rfl rfl)))
      ·refine e' rfl ?_
       refine S0.step rfl (j0:=7) (js:=[]) (by kernel_rfl) ⟨⟨_,rfl,?_⟩,trivial⟩
       refine e' rfl ?_
       refine S0.step rfl (j0:=9) (js:=[]) (by kernel_rfl) ⟨⟨_,rfl,?_⟩,trivial⟩
       refine E0.s hC rfl (n' ?_)
       refine S0.step rfl (j0:=10) (js:=[]) (by kernel_rfl) ⟨⟨_,rfl,?_⟩,trivial⟩
       cases hh
       exact e' rfl (S0.nil (by kernel_rfl) (re' (rt' rfl rfl rfl)))
    ·refine e' rfl ?_
     refine S0.step rfl (j0:=3) (js:=[]) (by kernel_rfl) ⟨⟨_,rfl,?_⟩,trivial⟩
     refine qe' rfl trivial (B0.lenA _) (n' ?_)
     refine S0.step rfl (j0:=4) (js:=[]) (by kernel_rfl) ⟨⟨_,rfl,?_⟩,trivial⟩
     refine E0.bx 3 (y:=.box (O0.row x3)) (by cases hx3; exact .inl rfl) rfl rfl rfl (c' (X0 hx4) rfl rfl (n' ?_))
     refine S0.step rfl (j0:=6) (js:=[]) (by kernel_rfl) ⟨⟨_,rfl,?_⟩,trivial⟩
     refine c' (F1 hx5) rfl rfl (n' ?_)
     refine S0.step rfl (j0:=7) (js:=[8]) (by kernel_rfl) ⟨⟨_,rfl,?_⟩,⟨_,rfl,?_⟩,trivial⟩
     ·refine e' rfl ?_
      refine S0.step rfl (j0:=8) (js:=[]) (by kernel_rfl) ⟨⟨_,rfl,?_⟩,trivial⟩
      refine e' rfl ?_
      refine S0.step rfl (j0:=9) (js:=[]) (by kernel_rfl) ⟨⟨_,rfl,?_⟩,trivial⟩
      refine E0.s hC rfl (n' ?_)
      refine S0.step rfl (j0:=10) (js:=[]) (by kernel_rfl) ⟨⟨_,rfl,?_⟩,trivial⟩
      cases hh
      exact e' rfl (S0.nil (by kernel_rfl) (re' (rt' rfl rfl rfl)))
     ·refine e' rfl ?_
      refine S0.step rfl (j0:=7) (js:=[]) (by kernel_rfl) ⟨⟨_,rfl,?_⟩,trivial⟩
      refine e' rfl ?_
      refine S0.step rfl (j0:=9) (js:=[]) (by kernel_rfl) ⟨⟨_,rfl,?_⟩,trivial⟩
      refine E0.s hC rfl (n' ?_)
      refine S0.step rfl (j0:=10) (js:=[]) (by kernel_rfl) ⟨⟨_,rfl,?_⟩,trivial⟩
      cases hh
      exact e' rfl (S0.nil (by kernel_rfl) (re' (rt' rfl rfl rfl)))
   ·refine e' rfl ?_
    refine S0.step rfl (j0:=2) (js:=[]) (by kernel_rfl) ⟨⟨_,rfl,?_⟩,trivial⟩
    refine e' rfl ?_
    refine S0.step rfl (j0:=3) (js:=[]) (by kernel_rfl) ⟨⟨_,rfl,?_⟩,trivial⟩
    refine qe' rfl trivial (B0.lenA _) (n' ?_)
    refine S0.step rfl (j0:=4) (js:=[]) (by kernel_rfl) ⟨⟨_,rfl,?_⟩,trivial⟩
    refine E0.bx 3 (y:=.box (O0.row x3)) (by cases hx3; exact .inl rfl) rfl rfl rfl (c' (X0 hx4) rfl rfl (n' ?_))
    refine S0.step rfl (j0:=6) (js:=[]) (by kernel_rfl) ⟨⟨_,rfl,?_⟩,trivial⟩
    refine c' (F1 hx5) rfl rfl (n' ?_)
    refine S0.step rfl (j0:=7) (js:=[8]) (by kernel_rfl) ⟨⟨_,rfl,?_⟩,⟨_,rfl,?_⟩,trivial⟩
    ·refine e' rfl ?_
     refine S0.step rfl (j0:=8) (js:=[]) (by kernel_rfl) ⟨⟨_,rfl,?_⟩,trivial⟩
     refine e' rfl ?_
     refine S0.step rfl (j0:=9) (js:=[]) (by kernel_rfl) ⟨⟨_,rfl,?_⟩,trivial⟩
     refine E0.s hC rfl (n' ?_)
     refine S0.step rfl (j0:=10) (js:=[]) (by kernel_rfl) ⟨⟨_,rfl,?_⟩,trivial⟩
     cases hh
     exact e' rfl (S0.nil (by kernel_rfl) (re' (rt' rfl rfl rfl)))
    ·refine e' rfl ?_
     refine S0.step rfl (j0:=7) (js:=[]) (by kernel_rfl) ⟨⟨_,rfl,?_⟩,trivial⟩
     refine e' rfl ?_
     refine S0.step rfl (j0:=9) (js:=[]) (by kernel_rfl) ⟨⟨_,rfl,?_⟩,trivial⟩
     refine E0.s hC rfl (n' ?_)
     refine S0.step rfl (j0:=10) (js:=[]) (by kernel_rfl) ⟨⟨_,rfl,?_⟩,trivial⟩
     cases hh
     exact e' rfl (S0.nil (by kernel_rfl) (re' (rt' rfl rfl rfl)))
  ·refine e' rfl ?_
   refine S0.step rfl (j0:=0) (js:=[3,5]) (by kernel_rfl) ⟨⟨_,rfl,?_⟩,⟨_,rfl,?_⟩,⟨_,rfl,?_⟩,trivial⟩
   ·refine e' rfl ?_
    refine S0.step rfl (j0:=3) (js:=[5]) (by kernel_rfl) ⟨⟨_,rfl,?_⟩,⟨_,rfl,?_⟩,trivial⟩
    ·refine qe' rfl trivial (B0.lenA _) (n' ?_)
     refine S0.step rfl (j0:=4) (js:=[5]) (by kernel_rfl) ⟨⟨_,rfl,?_⟩,⟨_,rfl,?_⟩,trivial⟩
     ·refine E0.bx 3 (y:=.box (O0.row x3)) (by cases hx3; exact .inl rfl) rfl rfl rfl (c' (X0 hx4) rfl rfl (n' ?_))
      refine S0.step rfl (j0:=5) (js:=[]) (by kernel_rfl) ⟨⟨_,rfl,?_⟩,trivial⟩
      refine e' rfl ?_
      refine S0.step rfl (j0:=6) (js:=[]) (by kernel_rfl) ⟨⟨_,rfl,?_⟩,trivial⟩
      refine c' (F1 hx5) rfl rfl (n' ?_)
      refine S0.step rfl (j0:=7) (js:=[8]) (by kernel_rfl) ⟨⟨_,rfl,?_⟩,⟨_,rfl,?_⟩,trivial⟩
      ·refine e' rfl ?_
       refine S0.step rfl (j0:=8) (js:=[]) (by kernel_rfl) ⟨⟨_,rfl,?_⟩,trivial⟩
       refine e' rfl ?_
       refine S0.step rfl (j0:=9) (js:=[]) (by kernel_rfl) ⟨⟨_,rfl,?_⟩,trivial⟩
       refine E0.s hC rfl (n' ?_)
       refine S0.step rfl (j0:=10) (js:=[]) (by kernel_rfl) ⟨⟨_,rfl,?_⟩,trivial⟩
       cases hh
       exact e' rfl (S0.nil (by kernel_rfl) (re' (rt' rfl rfl rfl)))
      ·refine e' rfl ?_
       refine S0.step rfl (j0:=7) (js:=[]) (by kernel_rfl) ⟨⟨_,rfl,?_⟩,trivial⟩
       refine e' rfl ?_
       refine S0.step rfl (j0:=9) (js:=[]) (by kernel_rfl) ⟨⟨_,rfl,?_⟩,trivial⟩
       refine E0.s hC rfl (n' ?_)
       refine S0.step rfl (j0:=10) (js:=[]) (by kernel_rfl) ⟨⟨_,rfl,?_⟩,trivial⟩
       cases hh
       exact e' rfl (S0.nil (by kernel_rfl) (re' (rt' rfl rfl rfl)))
     ·refine e' rfl ?_
      refine S0.step rfl (j0:=4) (js:=[]) (by kernel_rfl) ⟨⟨_,rfl,?_⟩,trivial⟩
      refine E0.bx 3 (y:=.box (O0.row x3)) (by cases hx3; exact .inl rfl) rfl rfl rfl (c' (X0 hx4) rfl rfl (n' ?_))
      refine S0.step rfl (j0:=6) (js:=[]) (by kernel_rfl) ⟨⟨_,rfl,?_⟩,trivial⟩
      refine c' (F1 hx5) rfl rfl (n' ?_)
      refine S0.step rfl (j0:=7) (js:=[8]) (by kernel_rfl) ⟨⟨_,rfl,?_⟩,⟨_,rfl,?_⟩,trivial⟩
      ·refine e' rfl ?_
       refine S0.step rfl (j0:=8) (js:=[]) (by kernel_rfl) ⟨⟨_,rfl,?_⟩,trivial⟩
       refine e' rfl ?_
       refine S0.step rfl (j0:=9) (js:=[]) (by kernel_rfl) ⟨⟨_,rfl,?_⟩,trivial⟩
       refine E0.s hC rfl (n' ?_)
       refine S0.step rfl (j0:=10) (js:=[]) (by kernel_rfl) ⟨⟨_,rfl,?_⟩,trivial⟩
       cases hh
       exact e' rfl (S0.nil (by kernel_rfl) (re' (rt' rfl rfl rfl)))
      ·refine e' rfl ?_
       refine S0.step rfl (j0:=7) (js:=[]) (by kernel_rfl) ⟨⟨_,rfl,?_⟩,trivial⟩
       refine e' rfl ?_
       refine S0.step rfl (j0:=9) (js:=[]) (by kernel_rfl) ⟨⟨_,rfl,?_⟩,trivial⟩
       refine E0.s hC rfl (n' ?_)
       refine S0.step rfl (j0:=10) (js:=[]) (by kernel_rfl) ⟨⟨_,rfl,?_⟩,trivial⟩
       cases hh
       exact e' rfl (S0.nil (by kernel_rfl) (re' (rt' rfl rfl rfl)))
    ·refine e' rfl ?_
     refine S0.step rfl (j0:=3) (js:=[]) (by kernel_rfl) ⟨⟨_,rfl,?_⟩,trivial⟩
     refine qe' rfl trivial (B0.lenA _) (n' ?_)
     refine S0.step rfl (j0:=4) (js:=[]) (by kernel_rfl) ⟨⟨_,rfl,?_⟩,trivial⟩
     refine E0.bx 3 (y:=.box (O0.row x3)) (by cases hx3; exact .inl rfl) rfl rfl rfl (c' (X0 hx4) rfl rfl (n' ?_))
     refine S0.step rfl (j0:=6) (js:=[]) (by kernel_rfl) ⟨⟨_,rfl,?_⟩,trivial⟩
     refine c' (F1 hx5) rfl rfl (n' ?_)
     refine S0.step rfl (j0:=7) (js:=[8]) (by kernel_rfl) ⟨⟨_,rfl,?_⟩,⟨_,rfl,?_⟩,trivial⟩
     ·refine e' rfl ?_
      refine S0.step rfl (j0:=8) (js:=[]) (by kernel_rfl) ⟨⟨_,rfl,?_⟩,trivial⟩
      refine e' rfl ?_
      refine S0.step rfl (j0:=9) (js:=[]) (by kernel_rfl) ⟨⟨_,rfl,?_⟩,trivial⟩
      refine E0.s hC rfl (n' ?_)
      refine S0.step rfl (j0:=10) (js:=[]) (by kernel_rfl) ⟨⟨_,rfl,?_⟩,trivial⟩
      cases hh
      exact e' rfl (S0.nil (by kernel_rfl) (re' (rt' rfl rfl rfl)))
     ·refine e' rfl ?_
      refine S0.step rfl (j0:=7) (js:=[]) (by kernel_rfl) ⟨⟨_,rfl,?_⟩,trivial⟩
      refine e' rfl ?_
      refine S0.step rfl (j0:=9) (js:=[]) (by kernel_rfl) ⟨⟨_,rfl,?_⟩,trivial⟩
      refine E0.s hC rfl (n' ?_)
      refine S0.step rfl (j0:=10) (js:=[]) (by kernel_rfl) ⟨⟨_,rfl,?_⟩,trivial⟩
      cases hh
      exact e' rfl (S0.nil (by kernel_rfl) (re' (rt' rfl rfl rfl)))
   ·refine qe' rfl trivial (B0.lenA _) (n' ?_)
    refine S0.step rfl (j0:=0) (js:=[5]) (by kernel_rfl) ⟨⟨_,rfl,?_⟩,⟨_,rfl,?_⟩,trivial⟩
    ·refine e' rfl ?_
     refine S0.step rfl (j0:=4) (js:=[5]) (by kernel_rfl) ⟨⟨_,rfl,?_⟩,⟨_,rfl,?_⟩,trivial⟩
     ·refine E0.bx 3 (y:=.box (O0.row x3)) (by cases hx3; exact .inl rfl) rfl rfl rfl (c' (X0 hx4) rfl rfl (n' ?_))
      refine S0.step rfl (j0:=5) (js:=[]) (by kernel_rfl) ⟨⟨_,rfl,?_⟩,trivial⟩
      refine e' rfl ?_
      refine S0.step rfl (j0:=6) (js:=[]) (by kernel_rfl) ⟨⟨_,rfl,?_⟩,trivial⟩
      refine c' (F1 hx5) rfl rfl (n' ?_)
      refine S0.step rfl (j0:=7) (js:=[8]) (by kernel_rfl) ⟨⟨_,rfl,?_⟩,⟨_,rfl,?_⟩,trivial⟩
      ·refine e' rfl ?_
       refine S0.step rfl (j0:=8) (js:=[]) (by kernel_rfl) ⟨⟨_,rfl,?_⟩,trivial⟩
       refine e' rfl ?_
       refine S0.step rfl (j0:=9) (js:=[]) (by kernel_rfl) ⟨⟨_,rfl,?_⟩,trivial⟩
       refine E0.s hC rfl (n' ?_)
       refine S0.step rfl (j0:=10) (js:=[]) (by kernel_rfl) ⟨⟨_,rfl,?_⟩,trivial⟩
       cases hh
       exact e' rfl (S0.nil (by kernel_rfl) (re' (rt' rfl rfl rfl)))
      ·refine e' rfl ?_
       refine S0.step rfl (j0:=7) (js:=[]) (by kernel_rfl) ⟨⟨_,rfl,?_⟩,trivial⟩
       refine e' rfl ?_
       refine S0.step rfl (j0:=9) (js:=[]) (by kernel_rfl) ⟨⟨_,rfl,?_⟩,trivial⟩
       refine E0.s hC rfl (n' ?_)
       refine S0.step rfl (j0:=10) (js:=[]) (by kernel_rfl) ⟨⟨_,rfl,?_⟩,trivial⟩
       cases hh
       exact e' rfl (S0.nil (by kernel_rfl) (re' (rt' rfl rfl rfl)))
     ·refine e' rfl ?_
      refine S0.step rfl (j0:=4) (js:=[]) (by kernel_rfl) ⟨⟨_,rfl,?_⟩,trivial⟩
      refine E0.bx 3 (y:=.box (O0.row x3)) (by cases hx3; exact .inl rfl) rfl rfl rfl (c' (X0 hx4) rfl rfl (n' ?_))
      refine S0.step rfl (j0:=6) (js:=[]) (by kernel_rfl) ⟨⟨_,rfl,?_⟩,trivial⟩
      refine c' (F1 hx5) rfl rfl (n' ?_)
      refine S0.step rfl (j0:=7) (js:=[8]) (by kernel_rfl) ⟨⟨_,rfl,?_⟩,⟨_,rfl,?_⟩,trivial⟩
      ·refine e' rfl ?_
       refine S0.step rfl (j0:=8) (js:=[]) (by kernel_rfl) ⟨⟨_,rfl,?_⟩,trivial⟩
       refine e' rfl ?_
       refine S0.step rfl (j0:=9) (js:=[]) (by kernel_rfl) ⟨⟨_,rfl,?_⟩,trivial⟩
       refine E0.s hC rfl (n' ?_)
       refine S0.step rfl (j0:=10) (js:=[]) (by kernel_rfl) ⟨⟨_,rfl,?_⟩,trivial⟩
       cases hh
       exact e' rfl (S0.nil (by kernel_rfl) (re' (rt' rfl rfl rfl)))
      ·refine e' rfl ?_
       refine S0.step rfl (j0:=7) (js:=[]) (by kernel_rfl) ⟨⟨_,rfl,?_⟩,trivial⟩
       refine e' rfl ?_
       refine S0.step rfl (j0:=9) (js:=[]) (by kernel_rfl) ⟨⟨_,rfl,?_⟩,trivial⟩
       refine E0.s hC rfl (n' ?_)
       refine S0.step rfl (j0:=10) (js:=[]) (by kernel_rfl) ⟨⟨_,rfl,?_⟩,trivial⟩
       cases hh
       exact e' rfl (S0.nil (by kernel_rfl) (re' (rt' rfl rfl rfl)))
    ·refine e' rfl ?_
     refine S0.step rfl (j0:=0) (js:=[]) (by kernel_rfl) ⟨⟨_,rfl,?_⟩,trivial⟩
     refine e' rfl ?_
     refine S0.step rfl (j0:=4) (js:=[]) (by kernel_rfl) ⟨⟨_,rfl,?_⟩,trivial⟩
     refine E0.bx 3 (y:=.box (O0.row x3)) (by cases hx3; exact .inl rfl) rfl rfl rfl (c' (X0 hx4) rfl rfl (n' ?_))
     refine S0.step rfl (j0:=6) (js:=[]) (by kernel_rfl) ⟨⟨_,rfl,?_⟩,trivial⟩
     refine c' (F1 hx5) rfl rfl (n' ?_)
     refine S0.step rfl (j0:=7) (js:=[8]) (by kernel_rfl) ⟨⟨_,rfl,?_⟩,⟨_,rfl,?_⟩,trivial⟩
     ·refine e' rfl ?_
      refine S0.step rfl (j0:=8) (js:=[]) (by kernel_rfl) ⟨⟨_,rfl,?_⟩,trivial⟩
      refine e' rfl ?_
      refine S0.step rfl (j0:=9) (js:=[]) (by kernel_rfl) ⟨⟨_,rfl,?_⟩,trivial⟩
      refine E0.s hC rfl (n' ?_)
      refine S0.step rfl (j0:=10) (js:=[]) (by kernel_rfl) ⟨⟨_,rfl,?_⟩,trivial⟩
      cases hh
      exact e' rfl (S0.nil (by kernel_rfl) (re' (rt' rfl rfl rfl)))
     ·refine e' rfl ?_
      refine S0.step rfl (j0:=7) (js:=[]) (by kernel_rfl) ⟨⟨_,rfl,?_⟩,trivial⟩
      refine e' rfl ?_
      refine S0.step rfl (j0:=9) (js:=[]) (by kernel_rfl) ⟨⟨_,rfl,?_⟩,trivial⟩
      refine E0.s hC rfl (n' ?_)
      refine S0.step rfl (j0:=10) (js:=[]) (by kernel_rfl) ⟨⟨_,rfl,?_⟩,trivial⟩
      cases hh
      exact e' rfl (S0.nil (by kernel_rfl) (re' (rt' rfl rfl rfl)))
   ·refine e' rfl ?_
    refine S0.step rfl (j0:=0) (js:=[3]) (by kernel_rfl) ⟨⟨_,rfl,?_⟩,⟨_,rfl,?_⟩,trivial⟩
    ·refine e' rfl ?_
     refine S0.step rfl (j0:=3) (js:=[]) (by kernel_rfl) ⟨⟨_,rfl,?_⟩,trivial⟩
     refine qe' rfl trivial (B0.lenA _) (n' ?_)
     refine S0.step rfl (j0:=4) (js:=[]) (by kernel_rfl) ⟨⟨_,rfl,?_⟩,trivial⟩
     refine E0.bx 3 (y:=.box (O0.row x3)) (by cases hx3; exact .inl rfl) rfl rfl rfl (c' (X0 hx4) rfl rfl (n' ?_))
     refine S0.step rfl (j0:=6) (js:=[]) (by kernel_rfl) ⟨⟨_,rfl,?_⟩,trivial⟩
     refine c' (F1 hx5) rfl rfl (n' ?_)
     refine S0.step rfl (j0:=7) (js:=[8]) (by kernel_rfl) ⟨⟨_,rfl,?_⟩,⟨_,rfl,?_⟩,trivial⟩
     ·refine e' rfl ?_
      refine S0.step rfl (j0:=8) (js:=[]) (by kernel_rfl) ⟨⟨_,rfl,?_⟩,trivial⟩
      refine e' rfl ?_
      refine S0.step rfl (j0:=9) (js:=[]) (by kernel_rfl) ⟨⟨_,rfl,?_⟩,trivial⟩
      refine E0.s hC rfl (n' ?_)
      refine S0.step rfl (j0:=10) (js:=[]) (by kernel_rfl) ⟨⟨_,rfl,?_⟩,trivial⟩
      cases hh
      exact e' rfl (S0.nil (by kernel_rfl) (re' (rt' rfl rfl rfl)))
     ·refine e' rfl ?_
      refine S0.step rfl (j0:=7) (js:=[]) (by kernel_rfl) ⟨⟨_,rfl,?_⟩,trivial⟩
      refine e' rfl ?_
      refine S0.step rfl (j0:=9) (js:=[]) (by kernel_rfl) ⟨⟨_,rfl,?_⟩,trivial⟩
      refine E0.s hC rfl (n' ?_)
      refine S0.step rfl (j0:=10) (js:=[]) (by kernel_rfl) ⟨⟨_,rfl,?_⟩,trivial⟩
      cases hh
      exact e' rfl (S0.nil (by kernel_rfl) (re' (rt' rfl rfl rfl)))
    ·refine qe' rfl trivial (B0.lenA _) (n' ?_)
     refine S0.step rfl (j0:=0) (js:=[]) (by kernel_rfl) ⟨⟨_,rfl,?_⟩,trivial⟩
     refine e' rfl ?_
     refine S0.step rfl (j0:=4) (js:=[]) (by kernel_rfl) ⟨⟨_,rfl,?_⟩,trivial⟩
     refine E0.bx 3 (y:=.box (O0.row x3)) (by cases hx3; exact .inl rfl) rfl rfl rfl (c' (X0 hx4) rfl rfl (n' ?_))
     refine S0.step rfl (j0:=6) (js:=[]) (by kernel_rfl) ⟨⟨_,rfl,?_⟩,trivial⟩
     refine c' (F1 hx5) rfl rfl (n' ?_)
     refine S0.step rfl (j0:=7) (js:=[8]) (by kernel_rfl) ⟨⟨_,rfl,?_⟩,⟨_,rfl,?_⟩,trivial⟩
     ·refine e' rfl ?_
      refine S0.step rfl (j0:=8) (js:=[]) (by kernel_rfl) ⟨⟨_,rfl,?_⟩,trivial⟩
      refine e' rfl ?_
      refine S0.step rfl (j0:=9) (js:=[]) (by kernel_rfl) ⟨⟨_,rfl,?_⟩,trivial⟩
      refine E0.s hC rfl (n' ?_)
      refine S0.step rfl (j0:=10) (js:=[]) (by kernel_rfl) ⟨⟨_,rfl,?_⟩,trivial⟩
      cases hh
      exact e' rfl (S0.nil (by kernel_rfl) (re' (rt' rfl rfl rfl)))
     ·refine e' rfl ?_
      refine S0.step rfl (j0:=7) (js:=[]) (by kernel_rfl) ⟨⟨_,rfl,?_⟩,trivial⟩
      refine e' rfl ?_
      refine S0.step rfl (j0:=9) (js:=[]) (by kernel_rfl) ⟨⟨_,rfl,?_⟩,trivial⟩
      refine E0.s hC rfl (n' ?_)
      refine S0.step rfl (j0:=10) (js:=[]) (by kernel_rfl) ⟨⟨_,rfl,?_⟩,trivial⟩
      cases hh
      exact e' rfl (S0.nil (by kernel_rfl) (re' (rt' rfl rfl rfl)))
  ·refine e' rfl ?_
   refine S0.step rfl (j0:=0) (js:=[2]) (by kernel_rfl) ⟨⟨_,rfl,?_⟩,⟨_,rfl,?_⟩,trivial⟩
   ·refine e' rfl ?_
    refine S0.step rfl (j0:=2) (js:=[]) (by kernel_rfl) ⟨⟨_,rfl,?_⟩,trivial⟩
    refine e' rfl ?_
    refine S0.step rfl (j0:=3) (js:=[]) (by kernel_rfl) ⟨⟨_,rfl,?_⟩,trivial⟩
    refine qe' rfl trivial (B0.lenA _) (n' ?_)
    refine S0.step rfl (j0:=4) (js:=[]) (by kernel_rfl) ⟨⟨_,rfl,?_⟩,trivial⟩
    refine E0.bx 3 (y:=.box (O0.row x3)) (by cases hx3; exact .inl rfl) rfl rfl rfl (c' (X0 hx4) rfl rfl (n' ?_))
    refine S0.step rfl (j0:=6) (js:=[]) (by kernel_rfl) ⟨⟨_,rfl,?_⟩,trivial⟩
    refine c' (F1 hx5) rfl rfl (n' ?_)
    refine S0.step rfl (j0:=7) (js:=[8]) (by kernel_rfl) ⟨⟨_,rfl,?_⟩,⟨_,rfl,?_⟩,trivial⟩
    ·refine e' rfl ?_
     refine S0.step rfl (j0:=8) (js:=[]) (by kernel_rfl) ⟨⟨_,rfl,?_⟩,trivial⟩
     refine e' rfl ?_
     refine S0.step rfl (j0:=9) (js:=[]) (by kernel_rfl) ⟨⟨_,rfl,?_⟩,trivial⟩
     refine E0.s hC rfl (n' ?_)
     refine S0.step rfl (j0:=10) (js:=[]) (by kernel_rfl) ⟨⟨_,rfl,?_⟩,trivial⟩
     cases hh
     exact e' rfl (S0.nil (by kernel_rfl) (re' (rt' rfl rfl rfl)))
    ·refine e' rfl ?_
     refine S0.step rfl (j0:=7) (js:=[]) (by kernel_rfl) ⟨⟨_,rfl,?_⟩,trivial⟩
     refine e' rfl ?_
     refine S0.step rfl (j0:=9) (js:=[]) (by kernel_rfl) ⟨⟨_,rfl,?_⟩,trivial⟩
     refine E0.s hC rfl (n' ?_)
     refine S0.step rfl (j0:=10) (js:=[]) (by kernel_rfl) ⟨⟨_,rfl,?_⟩,trivial⟩
     cases hh
     exact e' rfl (S0.nil (by kernel_rfl) (re' (rt' rfl rfl rfl)))
   ·refine e' rfl ?_
    refine S0.step rfl (j0:=0) (js:=[3]) (by kernel_rfl) ⟨⟨_,rfl,?_⟩,⟨_,rfl,?_⟩,trivial⟩
    ·refine e' rfl ?_
     refine S0.step rfl (j0:=3) (js:=[]) (by kernel_rfl) ⟨⟨_,rfl,?_⟩,trivial⟩
     refine qe' rfl trivial (B0.lenA _) (n' ?_)
     refine S0.step rfl (j0:=4) (js:=[]) (by kernel_rfl) ⟨⟨_,rfl,?_⟩,trivial⟩
     refine E0.bx 3 (y:=.box (O0.row x3)) (by cases hx3; exact .inl rfl) rfl rfl rfl (c' (X0 hx4) rfl rfl (n' ?_))
     refine S0.step rfl (j0:=6) (js:=[]) (by kernel_rfl) ⟨⟨_,rfl,?_⟩,trivial⟩
     refine c' (F1 hx5) rfl rfl (n' ?_)
     refine S0.step rfl (j0:=7) (js:=[8]) (by kernel_rfl) ⟨⟨_,rfl,?_⟩,⟨_,rfl,?_⟩,trivial⟩
     ·refine e' rfl ?_
      refine S0.step rfl (j0:=8) (js:=[]) (by kernel_rfl) ⟨⟨_,rfl,?_⟩,trivial⟩
      refine e' rfl ?_
      refine S0.step rfl (j0:=9) (js:=[]) (by kernel_rfl) ⟨⟨_,rfl,?_⟩,trivial⟩
      refine E0.s hC rfl (n' ?_)
      refine S0.step rfl (j0:=10) (js:=[]) (by kernel_rfl) ⟨⟨_,rfl,?_⟩,trivial⟩
      cases hh
      exact e' rfl (S0.nil (by kernel_rfl) (re' (rt' rfl rfl rfl)))
     ·refine e' rfl ?_
      refine S0.step rfl (j0:=7) (js:=[]) (by kernel_rfl) ⟨⟨_,rfl,?_⟩,trivial⟩
      refine e' rfl ?_
      refine S0.step rfl (j0:=9) (js:=[]) (by kernel_rfl) ⟨⟨_,rfl,?_⟩,trivial⟩
      refine E0.s hC rfl (n' ?_)
      refine S0.step rfl (j0:=10) (js:=[]) (by kernel_rfl) ⟨⟨_,rfl,?_⟩,trivial⟩
      cases hh
      exact e' rfl (S0.nil (by kernel_rfl) (re' (rt' rfl rfl rfl)))
    ·refine qe' rfl trivial (B0.lenA _) (n' ?_)
     refine S0.step rfl (j0:=0) (js:=[]) (by kernel_rfl) ⟨⟨_,rfl,?_⟩,trivial⟩
     refine e' rfl ?_
     refine S0.step rfl (j0:=4) (js:=[]) (by kernel_rfl) ⟨⟨_,rfl,?_⟩,trivial⟩
     refine E0.bx 3 (y:=.box (O0.row x3)) (by cases hx3; exact .inl rfl) rfl rfl rfl (c' (X0 hx4) rfl rfl (n' ?_))
     refine S0.step rfl (j0:=6) (js:=[]) (by kernel_rfl) ⟨⟨_,rfl,?_⟩,trivial⟩
     refine c' (F1 hx5) rfl rfl (n' ?_)
     refine S0.step rfl (j0:=7) (js:=[8]) (by kernel_rfl) ⟨⟨_,rfl,?_⟩,⟨_,rfl,?_⟩,trivial⟩
     ·refine e' rfl ?_
      refine S0.step rfl (j0:=8) (js:=[]) (by kernel_rfl) ⟨⟨_,rfl,?_⟩,trivial⟩
      refine e' rfl ?_
      refine S0.step rfl (j0:=9) (js:=[]) (by kernel_rfl) ⟨⟨_,rfl,?_⟩,trivial⟩
      refine E0.s hC rfl (n' ?_)
      refine S0.step rfl (j0:=10) (js:=[]) (by kernel_rfl) ⟨⟨_,rfl,?_⟩,trivial⟩
      cases hh
      exact e' rfl (S0.nil (by kernel_rfl) (re' (rt' rfl rfl rfl)))
     ·refine e' rfl ?_
      refine S0.step rfl (j0:=7) (js:=[]) (by kernel_rfl) ⟨⟨_,rfl,?_⟩,trivial⟩
      refine e' rfl ?_
      refine S0.step rfl (j0:=9) (js:=[]) (by kernel_rfl) ⟨⟨_,rfl,?_⟩,trivial⟩
      refine E0.s hC rfl (n' ?_)
      refine S0.step rfl (j0:=10) (js:=[]) (by kernel_rfl) ⟨⟨_,rfl,?_⟩,trivial⟩
      cases hh
      exact e' rfl (S0.nil (by kernel_rfl) (re' (rt' rfl rfl rfl)))
 ·refine e' rfl ?_
  refine S0.step rfl (j0:=0) (js:=[1]) (by kernel_rfl) ⟨⟨_,rfl,?_⟩,⟨_,rfl,?_⟩,trivial⟩
  ·refine e' rfl ?_
   refine S0.step rfl (j0:=1) (js:=[]) (by kernel_rfl) ⟨⟨_,rfl,?_⟩,trivial⟩
   refine e' rfl ?_
   refine S0.step rfl (j0:=2) (js:=[]) (by kernel_rfl) ⟨⟨_,rfl,?_⟩,trivial⟩
   refine e' rfl ?_
   refine S0.step rfl (j0:=3) (js:=[]) (by kernel_rfl) ⟨⟨_,rfl,?_⟩,trivial⟩
   refine qe' rfl trivial (B0.lenA _) (n' ?_)
   refine S0.step rfl (j0:=4) (js:=[]) (by kernel_rfl) ⟨⟨_,rfl,?_⟩,trivial⟩
   refine E0.bx 3 (y:=.box (O0.row x3)) (by cases hx3; exact .inl rfl) rfl rfl rfl (c' (X0 hx4) rfl rfl (n' ?_))
   refine S0.step rfl (j0:=6) (js:=[]) (by kernel_rfl) ⟨⟨_,rfl,?_⟩,trivial⟩
   refine c' (F1 hx5) rfl rfl (n' ?_)
   refine S0.step rfl (j0:=7) (js:=[8]) (by kernel_rfl) ⟨⟨_,rfl,?_⟩,⟨_,rfl,?_⟩,trivial⟩
   ·refine e' rfl ?_
    refine S0.step rfl (j0:=8) (js:=[]) (by kernel_rfl) ⟨⟨_,rfl,?_⟩,trivial⟩
    refine e' rfl ?_
    refine S0.step rfl (j0:=9) (js:=[]) (by kernel_rfl) ⟨⟨_,rfl,?_⟩,trivial⟩
    refine E0.s hC rfl (n' ?_)
    refine S0.step rfl (j0:=10) (js:=[]) (by kernel_rfl) ⟨⟨_,rfl,?_⟩,trivial⟩
    cases hh
    exact e' rfl (S0.nil (by kernel_rfl) (re' (rt' rfl rfl rfl)))
   ·refine e' rfl ?_
    refine S0.step rfl (j0:=7) (js:=[]) (by kernel_rfl) ⟨⟨_,rfl,?_⟩,trivial⟩
    refine e' rfl ?_
    refine S0.step rfl (j0:=9) (js:=[]) (by kernel_rfl) ⟨⟨_,rfl,?_⟩,trivial⟩
    refine E0.s hC rfl (n' ?_)
    refine S0.step rfl (j0:=10) (js:=[]) (by kernel_rfl) ⟨⟨_,rfl,?_⟩,trivial⟩
    cases hh
    exact e' rfl (S0.nil (by kernel_rfl) (re' (rt' rfl rfl rfl)))
  ·refine e' rfl ?_
   refine S0.step rfl (j0:=0) (js:=[2]) (by kernel_rfl) ⟨⟨_,rfl,?_⟩,⟨_,rfl,?_⟩,trivial⟩
   ·refine e' rfl ?_
    refine S0.step rfl (j0:=2) (js:=[]) (by kernel_rfl) ⟨⟨_,rfl,?_⟩,trivial⟩
    refine e' rfl ?_
    refine S0.step rfl (j0:=3) (js:=[]) (by kernel_rfl) ⟨⟨_,rfl,?_⟩,trivial⟩
    refine qe' rfl trivial (B0.lenA _) (n' ?_)
    refine S0.step rfl (j0:=4) (js:=[]) (by kernel_rfl) ⟨⟨_,rfl,?_⟩,trivial⟩
    refine E0.bx 3 (y:=.box (O0.row x3)) (by cases hx3; exact .inl rfl) rfl rfl rfl (c' (X0 hx4) rfl rfl (n' ?_))
    refine S0.step rfl (j0:=6) (js:=[]) (by kernel_rfl) ⟨⟨_,rfl,?_⟩,trivial⟩
    refine c' (F1 hx5) rfl rfl (n' ?_)
    refine S0.step rfl (j0:=7) (js:=[8]) (by kernel_rfl) ⟨⟨_,rfl,?_⟩,⟨_,rfl,?_⟩,trivial⟩
    ·refine e' rfl ?_
     refine S0.step rfl (j0:=8) (js:=[]) (by kernel_rfl) ⟨⟨_,rfl,?_⟩,trivial⟩
     refine e' rfl ?_
     refine S0.step rfl (j0:=9) (js:=[]) (by kernel_rfl) ⟨⟨_,rfl,?_⟩,trivial⟩
     refine E0.s hC rfl (n' ?_)
     refine S0.step rfl (j0:=10) (js:=[]) (by kernel_rfl) ⟨⟨_,rfl,?_⟩,trivial⟩
     cases hh
     exact e' rfl (S0.nil (by kernel_rfl) (re' (rt' rfl rfl rfl)))
    ·refine e' rfl ?_
     refine S0.step rfl (j0:=7) (js:=[]) (by kernel_rfl) ⟨⟨_,rfl,?_⟩,trivial⟩
     refine e' rfl ?_
     refine S0.step rfl (j0:=9) (js:=[]) (by kernel_rfl) ⟨⟨_,rfl,?_⟩,trivial⟩
     refine E0.s hC rfl (n' ?_)
     refine S0.step rfl (j0:=10) (js:=[]) (by kernel_rfl) ⟨⟨_,rfl,?_⟩,trivial⟩
     cases hh
     exact e' rfl (S0.nil (by kernel_rfl) (re' (rt' rfl rfl rfl)))
   ·refine e' rfl ?_
    refine S0.step rfl (j0:=0) (js:=[3]) (by kernel_rfl) ⟨⟨_,rfl,?_⟩,⟨_,rfl,?_⟩,trivial⟩
    ·refine e' rfl ?_
     refine S0.step rfl (j0:=3) (js:=[]) (by kernel_rfl) ⟨⟨_,rfl,?_⟩,trivial⟩
     refine qe' rfl trivial (B0.lenA _) (n' ?_)
     refine S0.step rfl (j0:=4) (js:=[]) (by kernel_rfl) ⟨⟨_,rfl,?_⟩,trivial⟩
     refine E0.bx 3 (y:=.box (O0.row x3)) (by cases hx3; exact .inl rfl) rfl rfl rfl (c' (X0 hx4) rfl rfl (n' ?_))
     refine S0.step rfl (j0:=6) (js:=[]) (by kernel_rfl) ⟨⟨_,rfl,?_⟩,trivial⟩
     refine c' (F1 hx5) rfl rfl (n' ?_)
     refine S0.step rfl (j0:=7) (js:=[8]) (by kernel_rfl) ⟨⟨_,rfl,?_⟩,⟨_,rfl,?_⟩,trivial⟩
     ·refine e' rfl ?_
      refine S0.step rfl (j0:=8) (js:=[]) (by kernel_rfl) ⟨⟨_,rfl,?_⟩,trivial⟩
      refine e' rfl ?_
      refine S0.step rfl (j0:=9) (js:=[]) (by kernel_rfl) ⟨⟨_,rfl,?_⟩,trivial⟩
      refine E0.s hC rfl (n' ?_)
      refine S0.step rfl (j0:=10) (js:=[]) (by kernel_rfl) ⟨⟨_,rfl,?_⟩,trivial⟩
      cases hh
      exact e' rfl (S0.nil (by kernel_rfl) (re' (rt' rfl rfl rfl)))
     ·refine e' rfl ?_
      refine S0.step rfl (j0:=7) (js:=[]) (by kernel_rfl) ⟨⟨_,rfl,?_⟩,trivial⟩
      refine e' rfl ?_
      refine S0.step rfl (j0:=9) (js:=[]) (by kernel_rfl) ⟨⟨_,rfl,?_⟩,trivial⟩
      refine E0.s hC rfl (n' ?_)
      refine S0.step rfl (j0:=10) (js:=[]) (by kernel_rfl) ⟨⟨_,rfl,?_⟩,trivial⟩
      cases hh
      exact e' rfl (S0.nil (by kernel_rfl) (re' (rt' rfl rfl rfl)))
    ·refine qe' rfl trivial (B0.lenA _) (n' ?_)
     refine S0.step rfl (j0:=0) (js:=[]) (by kernel_rfl) ⟨⟨_,rfl,?_⟩,trivial⟩
     refine e' rfl ?_
     refine S0.step rfl (j0:=4) (js:=[]) (by kernel_rfl) ⟨⟨_,rfl,?_⟩,trivial⟩
     refine E0.bx 3 (y:=.box (O0.row x3)) (by cases hx3; exact .inl rfl) rfl rfl rfl (c' (X0 hx4) rfl rfl (n' ?_))
     refine S0.step rfl (j0:=6) (js:=[]) (by kernel_rfl) ⟨⟨_,rfl,?_⟩,trivial⟩
     refine c' (F1 hx5) rfl rfl (n' ?_)
     refine S0.step rfl (j0:=7) (js:=[8]) (by kernel_rfl) ⟨⟨_,rfl,?_⟩,⟨_,rfl,?_⟩,trivial⟩
     ·refine e' rfl ?_
      refine S0.step rfl (j0:=8) (js:=[]) (by kernel_rfl) ⟨⟨_,rfl,?_⟩,trivial⟩
      refine e' rfl ?_
      refine S0.step rfl (j0:=9) (js:=[]) (by kernel_rfl) ⟨⟨_,rfl,?_⟩,trivial⟩
      refine E0.s hC rfl (n' ?_)
      refine S0.step rfl (j0:=10) (js:=[]) (by kernel_rfl) ⟨⟨_,rfl,?_⟩,trivial⟩
      cases hh
      exact e' rfl (S0.nil (by kernel_rfl) (re' (rt' rfl rfl rfl)))
     ·refine e' rfl ?_
      refine S0.step rfl (j0:=7) (js:=[]) (by kernel_rfl) ⟨⟨_,rfl,?_⟩,trivial⟩
      refine e' rfl ?_
      refine S0.step rfl (j0:=9) (js:=[]) (by kernel_rfl) ⟨⟨_,rfl,?_⟩,trivial⟩
      refine E0.s hC rfl (n' ?_)
      refine S0.step rfl (j0:=10) (js:=[]) (by kernel_rfl) ⟨⟨_,rfl,?_⟩,trivial⟩
      cases hh
      exact e' rfl (S0.nil (by kernel_rfl) (re' (rt' rfl rfl rfl)))
end Go.Proofs.YtdkabnfphmmmnaaGreatDoor

set_option maxRecDepth 100000
set_option maxHeartbeats 4000000
set_option synthInstance.maxSize 20000
set_option linter.unusedVariables false
namespace Go.Proofs.YtdkabnfphmmmnaaGreatDoor
open Go.Am
def Ye (p:F0)(e:D0):Option (Int×Int×Int):=
 Fh p e>>=fun x1=>
 if (x1.2 != 0)=true then
  some (0,0,x1.2)
 else
  if (x1.1.Kind != 1)=true then
   some (0,0,9)
  else
   some (x1.1.Low,x1.1.High,0)
theorem N1a {p e res}(hh:Ye p e=some res):L0 C 19 [.agg (F0.cells p),.agg (D0.cells e)] [] (Ret [] (.tup [.d (.int .i64 res.1),.d (.int .i64 res.2.1),.d (.int .i64 res.2.2)])):=by
 unfold Ye at hh
 obtain ⟨x1,hx1,hh⟩:=bs' hh
 refine L0.intro hC Tryz.func19 rfl rfl rfl (s' rfl rfl (E0.n hC rfl (E0.n hC rfl (e' rfl (p' 2 rfl (c' (I18 hx1) rfl rfl (o' 3 rfl (E0.nf hC rfl (E0.s hC rfl (e' rfl (S' (t' rfl (ci' rfl hh (fun hh=>?_) (fun hh=>?_))))))))))))))
 ·cases hh
  exact t' rfl (re' (rt' rfl rfl rfl))
 refine sk' (S' (t' rfl (ci' rfl hh (fun hh=>?_) (fun hh=>?_))))
 ·cases hh
  exact t' rfl (re' (rt' rfl rfl rfl))
 cases hh
 exact sk' (S' (AEx.draw hC 7 rfl rfl rfl (E' rfl (n' (re' (rt' rfl rfl rfl))))))
def S7 (p:F0):Option (Int×Int):=
 Z3 p>>=fun x1=>
 if (x1.2 != 0)=true then
  some (0,x1.2)
 else
  Qf p>>=fun x2=>
  some (x2.steps,0)
theorem Pn {p res}(hh:S7 p=some res):L0 C 21 [.agg (F0.cells p)] [] (Ret [] (.tup [.d (.int .i64 res.1),.d (.int .i64 res.2)])):=by
 unfold S7 at hh
 obtain ⟨x1,hx1,hh⟩:=bs' hh
 refine L0.intro hC Tryz.func21 rfl rfl rfl (s' rfl rfl (E0.n hC rfl (e' rfl (S' (p' 1 rfl (c' (Za hx1) rfl rfl (e' rfl (t' rfl (ci' rfl hh (fun hh=>?_) (fun hh=>?_))))))))))
 ·cases hh
  exact t' rfl (re' (rt' rfl rfl rfl))
 obtain ⟨x2,hx2,hh⟩:=bs' hh
 cases hh
 exact sk' (p' 1 rfl (c' (Wr hx2) rfl rfl (e' rfl (re' (rt' rfl rfl rfl)))))
def Gm:Option Bool:=
 Fl [120]>>=fun x1=>
 Fl [112,105,110]>>=fun x2=>
 Gn 2>>=fun x3=>
 Ko 10 [x2,x3]>>=fun x4=>
 Gn 1>>=fun x5=>
 Ko 8 [x4,x5]>>=fun x6=>
 Fl [120]>>=fun x7=>
 Gn 3>>=fun x8=>
 Ko 13 [x7,x8]>>=fun x9=>
 Z3 (F0.mk [(B0.mk 1 [112,105,110] (A0.mk 1 0 9 0 [] [] []) 0 (D0.mk 0 0 [] []) [] [] []),(B0.mk 4 [120] (A0.mk 1 0 3 0 [] [] []) 0 (D0.mk 0 0 [] []) [] [] [])] [(C0.mk 0 x1 x6 [] [] 0 0 0 [] [] []),(C0.mk 3 (D0.mk 0 0 [] []) x9 [] [] 0 0 0 [] [] [])])>>=fun x10=>
 idx [(C0.mk 0 x1 x6 [] [] 0 0 0 [] [] []),(C0.mk 3 (D0.mk 0 0 [] []) x9 [] [] 0 0 0 [] [] [])] 0>>=fun x11=>
 Ye (F0.mk [(B0.mk 1 [112,105,110] (A0.mk 1 0 9 0 [] [] []) 0 (D0.mk 0 0 [] []) [] [] []),(B0.mk 4 [120] (A0.mk 1 0 3 0 [] [] []) 0 (D0.mk 0 0 [] []) [] [] [])] [(C0.mk 0 x1 x6 [] [] 0 0 0 [] [] []),(C0.mk 3 (D0.mk 0 0 [] []) x9 [] [] 0 0 0 [] [] [])]) x11.Value>>=fun x12=>
 S7 (F0.mk [(B0.mk 1 [112,105,110] (A0.mk 1 0 9 0 [] [] []) 0 (D0.mk 0 0 [] []) [] [] []),(B0.mk 4 [120] (A0.mk 1 0 3 0 [] [] []) 0 (D0.mk 0 0 [] []) [] [] [])] [(C0.mk 0 x1 x6 [] [] 0 0 0 [] [] []),(C0.mk 3 (D0.mk 0 0 [] []) x9 [] [] 0 0 0 [] [] [])])>>=fun x13=>
 Fl [112,105,110]>>=fun x14=>
 Gn 1>>=fun x15=>
 Z3 (F0.mk [(B0.mk 1 [112,105,110] (A0.mk 1 0 9 0 [] [] []) 0 (D0.mk 0 0 [] []) [] [] []),(B0.mk 4 [120] (A0.mk 1 0 3 0 [] [] []) 0 (D0.mk 0 0 [] []) [] [] [])] [(C0.mk 0 x14 x15 [] [] 0 0 0 [] [] [])])>>=fun x16=>
 some (bif (bif (bif (bif (bif (bif (bif (bif (x10.1 == (-1)) then (x10.2 == 0) else false) then (x12.1 == 1) else false) then (x12.2.1 == 19) else false) then (x12.2.2 == 0) else false) then (x13.1 == 2) else false) then (x13.2 == 0) else false) then (x16.1 == (-1)) else false) then (x16.2 == 15) else false)
theorem H1l {res}(hh:Gm=some res):L0 C 11 [] [] (Ret [] (.d (.bool res))):=by
 unfold Gm at hh
 obtain ⟨x1,hx1,hh⟩:=bs' hh
 obtain ⟨x2,hx2,hh⟩:=bs' hh
 obtain ⟨x3,hx3,hh⟩:=bs' hh
 obtain ⟨x4,hx4,hh⟩:=bs' hh
 obtain ⟨x5,hx5,hh⟩:=bs' hh
 obtain ⟨x6,hx6,hh⟩:=bs' hh
 obtain ⟨x7,hx7,hh⟩:=bs' hh
 obtain ⟨x8,hx8,hh⟩:=bs' hh
 obtain ⟨x9,hx9,hh⟩:=bs' hh
 obtain ⟨x10,hx10,hh⟩:=bs' hh
 obtain ⟨x11,hx11,hh⟩:=bs' hh
 obtain ⟨x12,hx12,hh⟩:=bs' hh
 obtain ⟨x13,hx13,hh⟩:=bs' hh
 obtain ⟨x14,hx14,hh⟩:=bs' hh
 obtain ⟨x15,hx15,hh⟩:=bs' hh
 obtain ⟨x16,hx16,hh⟩:=bs' hh
 cases hh
 refine L0.intro hC Tryz.func11 rfl rfl rfl (t' rfl (p' 4 rfl (E0.be hC rfl (B0.rows_map [(B0.mk 1 [112,105,110] (A0.mk 1 0 9 0 [] [] []) 0 (D0.mk 0 0 [] []) [] [] []),(B0.mk 4 [120] (A0.mk 1 0 3 0 [] [] []) 0 (D0.mk 0 0 [] []) [] [] [])]).symm (c' (Xp hx1) rfl rfl (c' (Xp hx2) rfl rfl (c' (Mr hx3) rfl rfl ?_))))))
 refine E0.be hC rfl (D0.rows_map [x2,x3]).symm (E0.cl rfl (Dw hx4) ⟨.rfl,.full,trivial⟩ rfl (c' (Mr hx5) rfl rfl (E0.be hC rfl (D0.rows_map [x4,x5]).symm (E0.cl rfl (Dw hx6) ⟨.rfl,.full,trivial⟩ rfl (q' rfl (c' (Xp hx7) rfl rfl (c' (Mr hx8) rfl rfl (E0.be hC rfl (D0.rows_map [x7,x8]).symm ?_))))))))
 refine E0.cl rfl (Dw hx9) ⟨.rfl,.full,trivial⟩ rfl (q' rfl (E0.be hC rfl (C0.rows_map [(C0.mk 0 x1 x6 [] [] 0 0 0 [] [] []),(C0.mk 3 (D0.mk 0 0 [] []) x9 [] [] 0 0 0 [] [] [])]).symm (q' rfl (E0.nf hC rfl (E0.s hC rfl (n' (p' 1 rfl (E0.cl rfl (Za hx10) ⟨(.aggL ⟨.full,.full,trivial⟩),trivial⟩ rfl (e' rfl (S' (AEx.draw hC 14 rfl rfl rfl (O' 3 rfl ?_))))))))))))
 refine AQ.i hC rfl (U0 hx11) (C0.idx hx11) rfl (O' 2 rfl (AQ.cl rfl (N1a hx12) ⟨(.aggL ⟨.full,.full,trivial⟩),.rfl,trivial⟩ rfl (E' rfl (n' (p' 1 rfl (E0.cl rfl (Pn hx13) ⟨(.aggL ⟨.full,.full,trivial⟩),trivial⟩ rfl (e' rfl (S' ?_))))))))
 refine AEx.drawL hC 8 [] [(7,1)] [[.row [.full (B0.rows [(B0.mk 1 [112,105,110] (A0.mk 1 0 9 0 [] [] []) 0 (D0.mk 0 0 [] []) [] [] []),(B0.mk 4 [120] (A0.mk 1 0 3 0 [] [] []) 0 (D0.mk 0 0 [] []) [] [] [])]),.full (C0.rows [(C0.mk 0 x1 x6 [] [] 0 0 0 [] [] []),(C0.mk 3 (D0.mk 0 0 [] []) x9 [] [] 0 0 0 [] [] [])])] 25,.row [.full (B0.rows []),.full (C0.rows [])] 25]] rfl rfl rfl rfl rfl rfl rfl rfl rfl rfl ?_
 refine AS.q hC rfl rfl rfl rfl (AS.q hC rfl rfl rfl rfl (AS.c (Xp hx14) rfl rfl rfl rfl (AS.c (Mr hx15) rfl rfl rfl rfl (AS.q hC rfl rfl rfl rfl (AS.a rfl (fun H=>AQ.be hC rfl (C0.rows_map [(C0.mk 0 x14 x15 [] [] 0 0 0 [] [] [])]).symm (AQ.nil rfl)) rfl rfl (AS.q hC rfl rfl rfl rfl (AS.n hC rfl rfl rfl rfl (AS.nil (E0.s hC rfl (n' (p' 1 rfl ?_)))))))))))
 refine E0.cl rfl (Za hx16) ⟨(.aggL ⟨.full,.full,trivial⟩),trivial⟩ rfl (e' rfl (sg' 35 rfl (G' 4 rfl (a1' rfl (pa' rfl (G' 2 rfl (a1' rfl (pa' rfl (G' 2 rfl (a1' rfl (pa' rfl (G' 2 rfl (a1' rfl ?_)))))))))))))
 refine pa' rfl (G' 2 rfl (a1' rfl (pa' rfl (G' 2 rfl (a1' rfl (pa' rfl (G' 2 rfl (a1' rfl (pa' rfl (G' 2 rfl (a1' rfl (pa' rfl (a0' rfl ?_)))))))))))))
 exact an' (n' (re' (rt' rfl rfl rfl)))
mutual
def D9 (t:A0)(left:Int):Option Int:=
 Sc t (IntKind.i64.wrap ((IntKind.i64.wrap (left - 1)) - (IntKind.i64.wrap (Int.tdiv ((t.Name).length:Int) 16)))) 0
 partial_fixpoint
def Sc (t:A0)(left1:Int)(i:Int):Option Int:=
 if (bif (decide (i < ((t.Names).length:Int))) then (decide (left1≥0)) else false)=true then
  idx t.Names i>>=fun x1=>
  Sc t (IntKind.i64.wrap ((IntKind.i64.wrap (left1 - 1)) - (IntKind.i64.wrap (Int.tdiv ((x1).length:Int) 16)))) (IntKind.i64.wrap (i+1))
 else
  Tc t left1 0
 partial_fixpoint
def Tc (t:A0)(left2:Int)(i1:Int):Option Int:=
 if (bif (decide (i1 < ((t.Of).length:Int))) then (decide (left2≥0)) else false)=true then
  idx t.Of i1>>=fun x2=>
  D9 x2 left2>>=fun x3=>
  Tc t x3 (IntKind.i64.wrap (i1+1))
 else
  some left2
 partial_fixpoint
end
abbrev Bz (t:A0)(left:Int)(res:Int):Prop:=L0 C 107 [.agg (A0.cells t),.d (.int .i64 left)] [] (Ret [] (.d (.int .i64 res)))
abbrev J18 (t:A0)(left1:Int)(i:Int)(res:Int):Prop:=LM C 54 0 Tryz.f107 [1,1,0,1,4] [(1,.d (.int .i64 left1)),(2,.ref 0 0),(5,.d (.int .i64 i))] [.row (A0.cells t) 40] (Ret [] (.d (.int .i64 res)))
abbrev K18 (t:A0)(left2:Int)(i1:Int)(res:Int):Prop:=LM C 54 0 Tryz.f107 [1,1,1,0,1,4] [(1,.d (.int .i64 left2)),(2,.ref 0 0),(6,.d (.int .i64 i1))] [.row (A0.cells t) 40] (Ret [] (.d (.int .i64 res)))
theorem O1a:(∀ t left res,D9 t left=some res→Bz t left res)∧(∀ t left1 i res,Sc t left1 i=some res→J18 t left1 i res)∧(∀ t left2 i1 res,Tc t left2 i1=some res→K18 t left2 i1 res):=by
 refine D9.mutual_partial_correctness _ _ _ ?_ ?_ ?_
 ·intro g1 ih1 t left res hh
  exact L0.intro hC Tryz.func107 rfl rfl rfl (s' rfl rfl (E0.n hC rfl (e' rfl (p' 5 rfl (qc' rfl (by decide) (e' rfl (S' (t' rfl (bk' (fw' (ih1 _ _ _ _ hh) rfl rfl rfl))))))))))
 ·intro g1 g2 ih1 ih2 t left1 i res hh
  refine W0.unroll (S' (sg' 9 rfl (G' 3 rfl (AG.qe hC rfl (fun hg=>⟨trivial,trivial⟩) (estr.lenA _) (G' 3 rfl (a1' rfl (pa' rfl (an' (n' (ci' rfl hh (fun hh=>?_) (fun hh=>?_)))))))))))
  ·obtain ⟨x1,hx1,hh⟩:=bs' hh
   exact sk' (S' (bk' (P' 5 rfl (i' rfl (U0 hx1) (estr.idx hx1) rfl (o' 2 rfl (qc' rfl (by decide) (e' rfl (T' rfl (lw' (ih1 _ _ _ _ hh) rfl rfl rfl)))))))))
  exact ex' (S' (t' rfl (bk' (fw' (ih2 _ _ _ _ hh) rfl rfl rfl))))
 ·intro g0 g2 ih0 ih2 t left2 i1 res hh
  refine W0.unroll (S' (sg' 9 rfl (G' 3 rfl (AG.qe hC rfl (fun hg=>⟨trivial,trivial⟩) (A0.lenA _) (G' 3 rfl (a1' rfl (pa' rfl (an' (n' (ci' rfl hh (fun hh=>?_) (fun hh=>?_)))))))))))
  ·obtain ⟨x2,hx2,hh⟩:=bs' hh
   obtain ⟨x3,hx3,hh⟩:=bs' hh
   exact sk' (S' (bk' (P' 3 rfl (i' rfl (U0 hx2) (A0.idx hx2) rfl (o' 2 rfl (c' (ih0 _ _ _ hx3) rfl rfl (e' rfl (T' rfl (lw' (ih2 _ _ _ _ hh) rfl rfl rfl)))))))))
  cases hh
  exact ex' (t' rfl (re' (rt' rfl rfl rfl)))
theorem U1d {t left res}(hh:D9 t left=some res):Bz t left res:=(O1a).1 _ _ _ hh
mutual
def X5 (e:D0)(left:Int):Option Int:=
 Uc e (IntKind.i64.wrap ((IntKind.i64.wrap (left - 1)) - (IntKind.i64.wrap (Int.tdiv ((e.Name).length:Int) 16)))) 0
 partial_fixpoint
def Uc (e:D0)(left1:Int)(i:Int):Option Int:=
 if (bif (decide (i < ((e.Kids).length:Int))) then (decide (left1≥0)) else false)=true then
  idx e.Kids i>>=fun x1=>
  X5 x1 left1>>=fun x2=>
  Uc e x2 (IntKind.i64.wrap (i+1))
 else
  some left1
 partial_fixpoint
end
abbrev Cz (e:D0)(left:Int)(res:Int):Prop:=L0 C 40 [.agg (D0.cells e),.d (.int .i64 left)] [] (Ret [] (.d (.int .i64 res)))
abbrev L18 (e:D0)(left1:Int)(i:Int)(res:Int):Prop:=LM C 32 0 Tryz.f40 [1,1,0,1,4] [(1,.d (.int .i64 left1)),(2,.ref 0 0),(5,.d (.int .i64 i))] [.row (D0.cells e) 34] (Ret [] (.d (.int .i64 res)))
theorem P1a:(∀ e left res,X5 e left=some res→Cz e left res)∧(∀ e left1 i res,Uc e left1 i=some res→L18 e left1 i res):=by
 refine X5.mutual_partial_correctness _ _ ?_ ?_
 ·intro g1 ih1 e left res hh
  exact L0.intro hC Tryz.func40 rfl rfl rfl (s' rfl rfl (E0.n hC rfl (e' rfl (p' 5 rfl (qc' rfl (by decide) (e' rfl (S' (t' rfl (bk' (fw' (ih1 _ _ _ _ hh) rfl rfl rfl))))))))))
 ·intro g0 g1 ih0 ih1 e left1 i res hh
  refine W0.unroll (S' (sg' 9 rfl (G' 3 rfl (AG.qe hC rfl (fun hg=>⟨trivial,trivial⟩) (D0.lenA _) (G' 3 rfl (a1' rfl (pa' rfl (an' (n' (ci' rfl hh (fun hh=>?_) (fun hh=>?_)))))))))))
  ·obtain ⟨x1,hx1,hh⟩:=bs' hh
   obtain ⟨x2,hx2,hh⟩:=bs' hh
   exact sk' (S' (bk' (P' 3 rfl (i' rfl (U0 hx1) (D0.idx hx1) rfl (o' 2 rfl (c' (ih0 _ _ _ hx2) rfl rfl (e' rfl (T' rfl (lw' (ih1 _ _ _ _ hh) rfl rfl rfl)))))))))
  cases hh
  exact ex' (t' rfl (re' (rt' rfl rfl rfl)))
theorem Lj {e left res}(hh:X5 e left=some res):Cz e left res:=(P1a).1 _ _ _ hh
mutual
def E5 (l:List C0)(left:Int):Option Int:=
 N8 l left 0
 partial_fixpoint
def N8 (l:List C0)(left2:Int)(i:Int):Option Int:=
 if (bif (decide (i < ((l).length:Int))) then (decide (left2≥0)) else false)=true then
  idx l i>>=fun x1=>
  X5 x1.Place (IntKind.i64.wrap ((IntKind.i64.wrap (left2 - 1)) - (IntKind.i64.wrap (Int.tdiv ((x1.Name).length:Int) 16))))>>=fun x2=>
  X5 x1.Value x2>>=fun x3=>
  Ab l x1 x3 i 0
 else
  some left2
 partial_fixpoint
def Ab (l:List C0)(x1:C0)(left1:Int)(i1:Int)(k:Int):Option Int:=
 if (bif (decide (k < ((x1.Args).length:Int))) then (decide (left1≥0)) else false)=true then
  idx x1.Args k>>=fun x4=>
  X5 x4 left1>>=fun x5=>
  Ab l x1 x5 i1 (IntKind.i64.wrap (k+1))
 else
  if (decide (((x1.Numbers).length:Int) > 100))=true then
   some (-1)
  else
   E5 x1.Then left1>>=fun x6=>
   E5 x1.Else x6>>=fun x7=>
   N8 l x7 (IntKind.i64.wrap (i1+1))
 partial_fixpoint
end
abbrev Kw (l:List C0)(left:Int)(res:Int):Prop:=L0 C 51 [.d (.sl (C0.rows l)),.d (.int .i64 left)] [] (Ret [] (.d (.int .i64 res)))
abbrev R15 (l:List C0)(left2:Int)(i:Int)(res:Int):Prop:=LM C 68 0 Tryz.f51 [1,0,1,4] [(0,.d (.sl (C0.rows l))),(1,.d (.int .i64 left2)),(5,.d (.int .i64 i))] [] (Ret [] (.d (.int .i64 res)))
abbrev S15 (l:List C0)(x1:C0)(left1:Int)(i1:Int)(k:Int)(res:Int):Prop:=LM C 68 0 Tryz.f51 [1,0,1,4,5,1,0,4,1,1,1,1,0,1,4] [(0,.d (.sl (C0.rows l))),(1,.d (.int .i64 left1)),(5,.d (.int .i64 i1)),(6,.ref 0 0),(7,.d (.int .i64 k))] [.row (C0.cells x1) 53] (Ret [] (.d (.int .i64 res)))
theorem M18:(∀ l left res,E5 l left=some res→Kw l left res)∧(∀ l left2 i res,N8 l left2 i=some res→R15 l left2 i res)∧(∀ l x1 left1 i1 k res,Ab l x1 left1 i1 k=some res→S15 l x1 left1 i1 k res):=by
 refine E5.mutual_partial_correctness _ _ _ ?_ ?_ ?_
 ·intro g1 ih1 l left res hh
  exact L0.intro hC Tryz.func51 rfl rfl rfl (t' rfl (S' (t' rfl (bk' (fw' (ih1 _ _ _ _ hh) rfl rfl rfl)))))
 ·intro g2 ih2 l left2 i res hh
  refine W0.unroll (S' (sg' 8 rfl (G' 2 rfl (AG.qe hC rfl (fun hg=>⟨trivial,trivial⟩) (C0.lenA _) (G' 3 rfl (a1' rfl (pa' rfl (an' (n' (ci' rfl hh (fun hh=>?_) (fun hh=>?_)))))))))))
  ·obtain ⟨x1,hx1,hh⟩:=bs' hh
   obtain ⟨x2,hx2,hh⟩:=bs' hh
   obtain ⟨x3,hx3,hh⟩:=bs' hh
   refine sk' (S' (bk' (p' 2 rfl (i' rfl (U0 hx1) (C0.idx hx1) rfl (q' rfl (E0.nf hC rfl (E0.s hC rfl (n' (p' 5 rfl (qc' rfl (by decide) (e' rfl (p' 3 rfl (c' (Lj hx2) rfl rfl ?_)))))))))))))
   exact e' rfl (p' 3 rfl (c' (Lj hx3) rfl rfl (e' rfl (S' (t' rfl (bk' (fw' (ih2 _ _ _ _ _ _ hh) rfl rfl rfl)))))))
  cases hh
  exact ex' (t' rfl (re' (rt' rfl rfl rfl)))
 ·intro g0 g1 g2 ih0 ih1 ih2 l x1 left1 i1 k res hh
  refine W0.unroll (S' (sg' 9 rfl (G' 3 rfl (AG.qe hC rfl (fun hg=>⟨trivial,trivial⟩) (D0.lenA _) (G' 3 rfl (a1' rfl (pa' rfl (an' (n' (ci' rfl hh (fun hh=>?_) (fun hh=>?_)))))))))))
  ·obtain ⟨x4,hx4,hh⟩:=bs' hh
   obtain ⟨x5,hx5,hh⟩:=bs' hh
   exact sk' (S' (bk' (P' 3 rfl (i' rfl (U0 hx4) (D0.idx hx4) rfl (o' 2 rfl (c' (Lj hx5) rfl rfl (e' rfl (T' rfl (lw' (ih2 _ _ _ _ _ _ hh) rfl rfl rfl)))))))))
  refine ex' (S' (p' 2 rfl (qe' rfl trivial (ei64.lenA _) (e' rfl (ci' rfl hh (fun hh=>?_) (fun hh=>?_))))))
  ·cases hh
   exact t' rfl (re' (rt' rfl rfl rfl))
  obtain ⟨x6,hx6,hh⟩:=bs' hh
  obtain ⟨x7,hx7,hh⟩:=bs' hh
  exact sk' (p' 3 rfl (c' (ih0 _ _ _ hx6) rfl rfl (e' rfl (P' 3 rfl (c' (ih0 _ _ _ hx7) rfl rfl (e' rfl (T' rfl (lw' (ih1 _ _ _ _ hh) rfl rfl rfl))))))))
theorem Iv {l left res}(hh:E5 l left=some res):Kw l left res:=(M18).1 _ _ _ hh
mutual
def T9 (l:List B0)(left:Int):Option Int:=
 Bb l left 0
 partial_fixpoint
def Bb (l:List B0)(left1:Int)(i:Int):Option Int:=
 if (bif (decide (i < ((l).length:Int))) then (decide (left1≥0)) else false)=true then
  idx l i>>=fun x1=>
  D9 x1.TypeV (IntKind.i64.wrap ((IntKind.i64.wrap (left1 - 1)) - (IntKind.i64.wrap (Int.tdiv ((x1.Name).length:Int) 16))))>>=fun x2=>
  X5 x1.Value x2>>=fun x3=>
  T9 x1.Params x3>>=fun x4=>
  T9 x1.Vars x4>>=fun x5=>
  E5 x1.Body x5>>=fun x6=>
  Bb l x6 (IntKind.i64.wrap (i+1))
 else
  some left1
 partial_fixpoint
end
abbrev Lw (l:List B0)(left:Int)(res:Int):Prop:=L0 C 52 [.d (.sl (B0.rows l)),.d (.int .i64 left)] [] (Ret [] (.d (.int .i64 res)))
abbrev T15 (l:List B0)(left1:Int)(i:Int)(res:Int):Prop:=LM C 49 0 Tryz.f52 [1,0,1,4] [(0,.d (.sl (B0.rows l))),(1,.d (.int .i64 left1)),(5,.d (.int .i64 i))] [] (Ret [] (.d (.int .i64 res)))
theorem N18:(∀ l left res,T9 l left=some res→Lw l left res)∧(∀ l left1 i res,Bb l left1 i=some res→T15 l left1 i res):=by
 refine T9.mutual_partial_correctness _ _ ?_ ?_
 ·intro g1 ih1 l left res hh
  exact L0.intro hC Tryz.func52 rfl rfl rfl (t' rfl (S' (t' rfl (bk' (fw' (ih1 _ _ _ _ hh) rfl rfl rfl)))))
 ·intro g0 g1 ih0 ih1 l left1 i res hh
  refine W0.unroll (S' (sg' 8 rfl (G' 2 rfl (AG.qe hC rfl (fun hg=>⟨trivial,trivial⟩) (B0.lenA _) (G' 3 rfl (a1' rfl (pa' rfl (an' (n' (ci' rfl hh (fun hh=>?_) (fun hh=>?_)))))))))))
  ·obtain ⟨x1,hx1,hh⟩:=bs' hh
   obtain ⟨x2,hx2,hh⟩:=bs' hh
   obtain ⟨x3,hx3,hh⟩:=bs' hh
   obtain ⟨x4,hx4,hh⟩:=bs' hh
   obtain ⟨x5,hx5,hh⟩:=bs' hh
   obtain ⟨x6,hx6,hh⟩:=bs' hh
   refine sk' (S' (bk' (p' 2 rfl (i' rfl (U0 hx1) (B0.idx hx1) rfl (q' rfl (E0.nf hC rfl (E0.s hC rfl (n' (p' 5 rfl (qc' rfl (by decide) (e' rfl (p' 3 rfl (c' (U1d hx2) rfl rfl ?_)))))))))))))
   exact e' rfl (p' 3 rfl (c' (Lj hx3) rfl rfl (e' rfl (p' 3 rfl (c' (ih0 _ _ _ hx4) rfl rfl (e' rfl (p' 3 rfl (c' (ih0 _ _ _ hx5) rfl rfl (e' rfl (P' 3 rfl (c' (Iv hx6) rfl rfl (e' rfl (T' rfl (lw' (ih1 _ _ _ _ hh) rfl rfl rfl))))))))))))))
  cases hh
  exact ex' (t' rfl (re' (rt' rfl rfl rfl)))
theorem Q1a {l left res}(hh:T9 l left=some res):Lw l left res:=(N18).1 _ _ _ hh
def Jv (p:F0)(most:Int):Option Bool:=
 T9 p.Decls most>>=fun x1=>
 E5 p.Body x1>>=fun x2=>
 some (decide (x2≥0))
theorem A1q {p most res}(hh:Jv p most=some res):L0 C 27 [.agg (F0.cells p),.d (.int .i64 most)] [] (Ret [] (.d (.bool res))):=by
 unfold Jv at hh
 obtain ⟨x1,hx1,hh⟩:=bs' hh
 obtain ⟨x2,hx2,hh⟩:=bs' hh
 cases hh
 exact L0.intro hC Tryz.func27 rfl rfl rfl (s' rfl rfl (E0.n hC rfl (e' rfl (S' (AEx.draw hC 9 rfl rfl rfl (O' 5 rfl (Qc' (Q1a hx1) rfl rfl (Qc' (Iv hx2) rfl rfl (E' rfl (n' (re' (rt' rfl rfl rfl))))))))))))
def C11 (p:F0):Option Bool:=
 Jv p 300>>=fun x1=>
 some x1
theorem B1q {p res}(hh:C11 p=some res):L0 C 12 [.agg (F0.cells p)] [] (Ret [] (.d (.bool res))):=by
 unfold C11 at hh
 obtain ⟨x1,hx1,hh⟩:=bs' hh
 cases hh
 exact L0.intro hC Tryz.func12 rfl rfl rfl (s' rfl rfl (E0.n hC rfl (e' rfl (p' 1 rfl (c' (A1q hx1) rfl rfl (e' rfl (re' (rt' rfl rfl rfl))))))))
def Ek (k:Int):Option Bool:=
 some (bif (decide (k≥0)) then (decide (k≤6)) else false)
theorem Mw {k res}(hh:Ek k=some res):L0 C 124 [.d (.int .i64 k)] [] (Ret [] (.d (.bool res))):=by
 unfold Ek at hh
 cases hh
 exact L0.intro hC Tryz.func124 rfl rfl rfl (t' rfl (sg' 7 rfl (G' 4 rfl (a1' rfl (pa' rfl (a0' rfl (an' (n' (re' (rt' rfl rfl rfl))))))))))
mutual
def T7 (a:A0)(b:A0):Option Bool:=
 if (bif (bif (bif (bif (bif (bif (a.Kind != b.Kind) then true else (a.Low != b.Low)) then true else (a.High != b.High)) then true else (a.Size != b.Size)) then true else (!(a.Name == b.Name))) then true else (((a.Names).length:Int) != ((b.Names).length:Int))) then true else (((a.Of).length:Int) != ((b.Of).length:Int)))=true then
  some false
 else
  Cb a b 0
 partial_fixpoint
def Cb (a:A0)(b:A0)(i:Int):Option Bool:=
 if (decide (i < ((a.Names).length:Int)))=true then
  idx a.Names i>>=fun x1=>
  idx b.Names i>>=fun x2=>
  if (!(x1 == x2))=true then
   some false
  else
   Cb a b (IntKind.i64.wrap (i+1))
 else
  O8 a b 0
 partial_fixpoint
def O8 (a:A0)(b:A0)(i1:Int):Option Bool:=
 if (decide (i1 < ((a.Of).length:Int)))=true then
  idx a.Of i1>>=fun x3=>
  idx b.Of i1>>=fun x4=>
  T7 x3 x4>>=fun x5=>
  if (!x5)=true then
   some false
  else
   O8 a b (IntKind.i64.wrap (i1+1))
 else
  some true
 partial_fixpoint
end
abbrev Nw (a:A0)(b:A0)(res:Bool):Prop:=L0 C 18 [.agg (A0.cells a),.agg (A0.cells b)] [] (Ret [] (.d (.bool res)))
abbrev U15 (a:A0)(b:A0)(i:Int)(res:Bool):Prop:=LM C 95 0 Tryz.f18 [1,1,0,1,4] [(2,.ref 0 0),(3,.ref 1 0),(5,.d (.int .i64 i))] [.row (A0.cells a) 40,.row (A0.cells b) 40] (Ret [] (.d (.bool res)))
abbrev V15 (a:A0)(b:A0)(i1:Int)(res:Bool):Prop:=LM C 95 0 Tryz.f18 [1,1,1,0,1,4] [(2,.ref 0 0),(3,.ref 1 0),(6,.d (.int .i64 i1))] [.row (A0.cells a) 40,.row (A0.cells b) 40] (Ret [] (.d (.bool res)))
theorem O18:(∀ a b res,T7 a b=some res→Nw a b res)∧(∀ a b i res,Cb a b i=some res→U15 a b i res)∧(∀ a b i1 res,O8 a b i1=some res→V15 a b i1 res):=by
 refine T7.mutual_partial_correctness _ _ _ ?_ ?_ ?_
 ·intro g1 ih1 a b res hh
  refine L0.intro hC Tryz.func18 rfl rfl rfl (s' rfl rfl (E0.n hC rfl (E0.n hC rfl (e' rfl (S' (sg' 51 rfl (G' 7 rfl (a1' rfl (a0' rfl (a1' rfl (a2' rfl (po' rfl (G' 2 rfl ?_)))))))))))))
  refine a1' rfl (a0' rfl (a1' rfl (a2' rfl (po' rfl (G' 2 rfl (a1' rfl (a0' rfl (a1' rfl (a2' rfl (po' rfl (G' 2 rfl (a1' rfl (a0' rfl ?_)))))))))))))
  refine a1' rfl (a2' rfl (po' rfl (G' 2 rfl (a1' rfl (AG.qe hC rfl (fun hg=>⟨⟨hg,trivial⟩,trivial⟩) (estr.lenA _) (a0' rfl (a1' rfl (AG.qe hC rfl (fun hg=>⟨⟨hg,trivial⟩,trivial⟩) (estr.lenA _) (a2' rfl (po' rfl (G' 2 rfl (a1' rfl (AG.qe hC rfl (fun hg=>⟨⟨hg,trivial⟩,trivial⟩) (A0.lenA _) ?_)))))))))))))
  refine a0' rfl (a1' rfl (AG.qe hC rfl (fun hg=>⟨⟨hg,trivial⟩,trivial⟩) (A0.lenA _) (a2' rfl (po' rfl (an' (n' (ci' rfl hh (fun hh=>?_) (fun hh=>?_))))))))
  ·cases hh
   exact t' rfl (re' (rt' rfl rfl rfl))
  exact sk' (S' (t' rfl (bk' (fw' (ih1 _ _ _ _ hh) rfl rfl rfl))))
 ·intro g1 g2 ih1 ih2 a b i res hh
  refine W0.unroll (S' (p' 3 rfl (qe' rfl trivial (estr.lenA _) (e' rfl (ci' rfl hh (fun hh=>?_) (fun hh=>?_))))))
  ·obtain ⟨x1,hx1,hh⟩:=bs' hh
   obtain ⟨x2,hx2,hh⟩:=bs' hh
   refine sk' (S' (bk' (S' (AEx.draw hC 11 rfl rfl rfl (O' 3 rfl (AQ.i hC rfl (U0 hx1) (estr.idx hx1) rfl (O' 4 rfl (AQ.i hC rfl (U0 hx2) (estr.idx hx2) rfl (E' rfl (n' (ci' rfl hh (fun hh=>?_) (fun hh=>?_))))))))))))
   ·cases hh
    exact t' rfl (re' (rt' rfl rfl rfl))
   exact sk' (T' rfl (lw' (ih1 _ _ _ _ hh) rfl rfl rfl))
  exact ex' (S' (t' rfl (bk' (fw' (ih2 _ _ _ _ hh) rfl rfl rfl))))
 ·intro g0 g2 ih0 ih2 a b i1 res hh
  refine W0.unroll (S' (p' 3 rfl (qe' rfl trivial (A0.lenA _) (e' rfl (ci' rfl hh (fun hh=>?_) (fun hh=>?_))))))
  ·obtain ⟨x3,hx3,hh⟩:=bs' hh
   obtain ⟨x4,hx4,hh⟩:=bs' hh
   obtain ⟨x5,hx5,hh⟩:=bs' hh
   refine sk' (S' (bk' (S' (AEx.draw hC 12 rfl rfl rfl (O' 3 rfl (AQ.i hC rfl (U0 hx3) (A0.idx hx3) rfl (O' 4 rfl (AQ.i hC rfl (U0 hx4) (A0.idx hx4) rfl (Q' rfl (Qc' (ih0 _ _ _ hx5) rfl rfl (E' rfl (n' (ci' rfl hh (fun hh=>?_) (fun hh=>?_))))))))))))))
   ·cases hh
    exact t' rfl (re' (rt' rfl rfl rfl))
   exact sk' (T' rfl (lw' (ih2 _ _ _ _ hh) rfl rfl rfl))
  cases hh
  exact ex' (t' rfl (re' (rt' rfl rfl rfl)))
theorem Kv {a b res}(hh:T7 a b=some res):Nw a b res:=(O18).1 _ _ _ hh
def Fk (t:A0):Option Bool:=
 T7 t (A0.mk 0 0 0 0 [] [] [])>>=fun x1=>
 some x1
theorem V1d {t res}(hh:Fk t=some res):L0 C 217 [.agg (A0.cells t)] [] (Ret [] (.d (.bool res))):=by
 unfold Fk at hh
 obtain ⟨x1,hx1,hh⟩:=bs' hh
 cases hh
 exact L0.intro hC Tryz.func217 rfl rfl rfl (s' rfl rfl (E0.n hC rfl (e' rfl (p' 2 rfl (c' (Kv hx1) rfl rfl (e' rfl (re' (rt' rfl rfl rfl))))))))
mutual
def U9 (t:A0):Option Int:=
 Db t 1 0
 partial_fixpoint
def Db (t:A0)(n:Int)(i:Int):Option Int:=
 if (decide (i < ((t.Of).length:Int)))=true then
  idx t.Of i>>=fun x1=>
  U9 x1>>=fun x2=>
  Db t (IntKind.i64.wrap (n+x2)) (IntKind.i64.wrap (i+1))
 else
  some n
 partial_fixpoint
end
abbrev Ow (t:A0)(res:Int):Prop:=L0 C 218 [.agg (A0.cells t)] [] (Ret [] (.d (.int .i64 res)))
abbrev W15 (t:A0)(n:Int)(i:Int)(res:Int):Prop:=LM C 21 0 Tryz.f218 [1,1,0,1,4] [(1,.ref 0 0),(3,.d (.int .i64 n)),(4,.d (.int .i64 i))] [.row (A0.cells t) 40] (Ret [] (.d (.int .i64 res)))
theorem P18:(∀ t res,U9 t=some res→Ow t res)∧(∀ t n i res,Db t n i=some res→W15 t n i res):=by
 refine U9.mutual_partial_correctness _ _ ?_ ?_
 ·intro g1 ih1 t res hh
  exact L0.intro hC Tryz.func218 rfl rfl rfl (s' rfl rfl (E0.n hC rfl (e' rfl (t' rfl (S' (t' rfl (bk' (fw' (ih1 _ _ _ _ hh) rfl rfl rfl))))))))
 ·intro g0 g1 ih0 ih1 t n i res hh
  refine W0.unroll (S' (p' 3 rfl (qe' rfl trivial (A0.lenA _) (e' rfl (ci' rfl hh (fun hh=>?_) (fun hh=>?_))))))
  ·obtain ⟨x1,hx1,hh⟩:=bs' hh
   obtain ⟨x2,hx2,hh⟩:=bs' hh
   exact sk' (S' (bk' (P' 4 rfl (i' rfl (U0 hx1) (A0.idx hx1) rfl (q' rfl (c' (ih0 _ _ hx2) rfl rfl (e' rfl (T' rfl (lw' (ih1 _ _ _ _ hh) rfl rfl rfl)))))))))
  cases hh
  exact ex' (t' rfl (re' (rt' rfl rfl rfl)))
theorem R1a {t res}(hh:U9 t=some res):Ow t res:=(P18).1 _ _ hh
mutual
def V9 (t:A0):Option Int:=
 P8 t 0 0
 partial_fixpoint
def P8 (t:A0)(d:Int)(i:Int):Option Int:=
 if (decide (i < ((t.Of).length:Int)))=true then
  idx t.Of i>>=fun x1=>
  V9 x1>>=fun x2=>
  if (decide (x2 > d))=true then
   P8 t x2 (IntKind.i64.wrap (i+1))
  else
   P8 t d (IntKind.i64.wrap (i+1))
 else
  some (IntKind.i64.wrap (d+1))
 partial_fixpoint
end
abbrev Pw (t:A0)(res:Int):Prop:=L0 C 219 [.agg (A0.cells t)] [] (Ret [] (.d (.int .i64 res)))
abbrev X15 (t:A0)(d:Int)(i:Int)(res:Int):Prop:=LM C 25 0 Tryz.f219 [1,1,0,1,4] [(1,.ref 0 0),(3,.d (.int .i64 d)),(4,.d (.int .i64 i))] [.row (A0.cells t) 40] (Ret [] (.d (.int .i64 res)))
theorem Q18:(∀ t res,V9 t=some res→Pw t res)∧(∀ t d i res,P8 t d i=some res→X15 t d i res):=by
 refine V9.mutual_partial_correctness _ _ ?_ ?_
 ·intro g1 ih1 t res hh
  exact L0.intro hC Tryz.func219 rfl rfl rfl (s' rfl rfl (E0.n hC rfl (e' rfl (t' rfl (S' (t' rfl (bk' (fw' (ih1 _ _ _ _ hh) rfl rfl rfl))))))))
 ·intro g0 g1 ih0 ih1 t d i res hh
  refine W0.unroll (S' (p' 3 rfl (qe' rfl trivial (A0.lenA _) (e' rfl (ci' rfl hh (fun hh=>?_) (fun hh=>?_))))))
  ·obtain ⟨x1,hx1,hh⟩:=bs' hh
   obtain ⟨x2,hx2,hh⟩:=bs' hh
   refine sk' (S' (bk' (p' 3 rfl (i' rfl (U0 hx1) (A0.idx hx1) rfl (q' rfl (c' (ih0 _ _ hx2) rfl rfl (e' rfl (t' rfl (ci' rfl hh (fun hh=>?_) (fun hh=>?_))))))))))
   ·exact T' rfl (T' rfl (lw' (ih1 _ _ _ _ hh) rfl rfl rfl))
   exact sk' (T' rfl (lw' (ih1 _ _ _ _ hh) rfl rfl rfl))
  cases hh
  exact ex' (t' rfl (re' (rt' rfl rfl rfl)))
theorem S1a {t res}(hh:V9 t=some res):Pw t res:=(Q18).1 _ _ hh
def T5 (s:V0)(d:Int):Option V0:=
 if (decide (d > s.depth))=true then
  some (V0.mk s.nodes d)
 else
  some s
theorem Hl {s d res}(hh:T5 s d=some res):L0 C 158 [.agg (V0.cells s),.d (.int .i64 d)] [] (Ret [] (.agg (V0.cells res))):=by
 unfold T5 at hh
 refine L0.intro hC Tryz.func158 rfl rfl rfl (s' rfl rfl (E0.n hC rfl (E0.n hC rfl (n' (S' (t' rfl (ci' rfl hh (fun hh=>?_) (fun hh=>?_))))))))
 ·cases hh
  exact P' 2 rfl (E0.s hC rfl (n' (p' 1 rfl (E0.s hC rfl (n' (re' (rt' rfl rfl rfl)))))))
 cases hh
 exact sk' (p' 1 rfl (E0.s hC rfl (n' (re' (rt' rfl rfl rfl)))))
def Bd (s:V0)(t:A0)(used:Bool):Option V0:=
 (if (!used)=true then Fk t else some default)>>=fun x1=>
 if (bif (!used) then x1 else false)=true then
  some s
 else
  U9 t>>=fun x2=>
  V9 t>>=fun x3=>
  T5 (V0.mk (IntKind.i64.wrap (s.nodes+x2)) s.depth) x3>>=fun x4=>
  some x4
theorem Dz {s t used res}(hh:Bd s t used=some res):L0 C 190 [.agg (V0.cells s),.agg (A0.cells t),.d (.bool used)] [] (Ret [] (.agg (V0.cells res))):=by
 unfold Bd at hh
 obtain ⟨x1,hx1,hh⟩:=bs' hh
 refine L0.intro hC Tryz.func190 rfl rfl rfl (s' rfl rfl (E0.n hC rfl (E0.n hC rfl (E0.n hC rfl (n' (S' (sg' 6 rfl (G' 4 rfl (AG.c rfl rfl (fun hg=>⟨hg,trivial⟩) (fun hw=>V1d (I1 hw hx1)) (pa' rfl (an' (n' (ci' rfl hh (fun hh=>?_) (fun hh=>?_))))))))))))))
 ·cases hh
  exact p' 1 rfl (E0.s hC rfl (n' (re' (rt' rfl rfl rfl))))
 obtain ⟨x2,hx2,hh⟩:=bs' hh
 obtain ⟨x3,hx3,hh⟩:=bs' hh
 obtain ⟨x4,hx4,hh⟩:=bs' hh
 cases hh
 refine sk' (S' (AEx.draw hC 6 rfl rfl rfl (O' 3 rfl (Qc' (R1a hx2) rfl rfl (E' rfl (E0.s hC rfl (n' (S' (AEx.draw hC 4 rfl rfl rfl (O' 2 rfl (Qc' (S1a hx3) rfl rfl (Qc' (Hl hx4) rfl rfl (Qn' ?_)))))))))))))
 exact E0.s hC rfl (n' (re' (rt' rfl rfl rfl)))
def Ze (k:Int):Option Bool:=
 some (bif (k == 5) then true else (k == 6))
theorem Qn {k res}(hh:Ze k=some res):L0 C 126 [.d (.int .i64 k)] [] (Ret [] (.d (.bool res))):=by
 unfold Ze at hh
 cases hh
 exact L0.intro hC Tryz.func126 rfl rfl rfl (t' rfl (sg' 7 rfl (G' 4 rfl (a1' rfl (po' rfl (a0' rfl (an' (n' (re' (rt' rfl rfl rfl))))))))))
mutual
def W9 (a:D0)(b:D0):Option Bool:=
 if (bif (bif (bif (a.Op != b.Op) then true else (a.NV != b.NV)) then true else (!(a.Name == b.Name))) then true else (((a.Kids).length:Int) != ((b.Kids).length:Int)))=true then
  some false
 else
  Eb a b 0
 partial_fixpoint
def Eb (a:D0)(b:D0)(i:Int):Option Bool:=
 if (decide (i < ((a.Kids).length:Int)))=true then
  idx a.Kids i>>=fun x1=>
  idx b.Kids i>>=fun x2=>
  W9 x1 x2>>=fun x3=>
  if (!x3)=true then
   some false
  else
   Eb a b (IntKind.i64.wrap (i+1))
 else
  some true
 partial_fixpoint
end
abbrev Rw (a:D0)(b:D0)(res:Bool):Prop:=L0 C 191 [.agg (D0.cells a),.agg (D0.cells b)] [] (Ret [] (.d (.bool res)))
abbrev Y15 (a:D0)(b:D0)(i:Int)(res:Bool):Prop:=LM C 53 0 Tryz.f191 [1,1,0,1,4] [(2,.ref 0 0),(3,.ref 1 0),(5,.d (.int .i64 i))] [.row (D0.cells a) 34,.row (D0.cells b) 34] (Ret [] (.d (.bool res)))
theorem R18:(∀ a b res,W9 a b=some res→Rw a b res)∧(∀ a b i res,Eb a b i=some res→Y15 a b i res):=by
 refine W9.mutual_partial_correctness _ _ ?_ ?_
 ·intro g1 ih1 a b res hh
  refine L0.intro hC Tryz.func191 rfl rfl rfl (s' rfl rfl (E0.n hC rfl (E0.n hC rfl (e' rfl (S' (sg' 28 rfl (G' 7 rfl (a1' rfl (a0' rfl (a1' rfl (a2' rfl (po' rfl (G' 2 rfl ?_)))))))))))))
  refine a1' rfl (a0' rfl (a1' rfl (a2' rfl (po' rfl (G' 2 rfl (a1' rfl (AG.qe hC rfl (fun hg=>⟨⟨hg,trivial⟩,trivial⟩) (D0.lenA _) (a0' rfl (a1' rfl (AG.qe hC rfl (fun hg=>⟨⟨hg,trivial⟩,trivial⟩) (D0.lenA _) (a2' rfl (po' rfl (an' ?_)))))))))))))
  refine n' (ci' rfl hh (fun hh=>?_) (fun hh=>?_))
  ·cases hh
   exact t' rfl (re' (rt' rfl rfl rfl))
  exact sk' (S' (t' rfl (bk' (fw' (ih1 _ _ _ _ hh) rfl rfl rfl))))
 ·intro g0 g1 ih0 ih1 a b i res hh
  refine W0.unroll (S' (p' 3 rfl (qe' rfl trivial (D0.lenA _) (e' rfl (ci' rfl hh (fun hh=>?_) (fun hh=>?_))))))
  ·obtain ⟨x1,hx1,hh⟩:=bs' hh
   obtain ⟨x2,hx2,hh⟩:=bs' hh
   obtain ⟨x3,hx3,hh⟩:=bs' hh
   refine sk' (S' (bk' (S' (AEx.draw hC 12 rfl rfl rfl (O' 3 rfl (AQ.i hC rfl (U0 hx1) (D0.idx hx1) rfl (O' 4 rfl (AQ.i hC rfl (U0 hx2) (D0.idx hx2) rfl (Q' rfl (Qc' (ih0 _ _ _ hx3) rfl rfl (E' rfl (n' (ci' rfl hh (fun hh=>?_) (fun hh=>?_))))))))))))))
   ·cases hh
    exact t' rfl (re' (rt' rfl rfl rfl))
   exact sk' (T' rfl (lw' (ih1 _ _ _ _ hh) rfl rfl rfl))
  cases hh
  exact ex' (t' rfl (re' (rt' rfl rfl rfl)))
theorem T1a {a b res}(hh:W9 a b=some res):Rw a b res:=(R18).1 _ _ _ hh
def Fb (e:D0):Option Bool:=
 W9 e (D0.mk 0 0 [] [])>>=fun x1=>
 some x1
theorem Mj {e res}(hh:Fb e=some res):L0 C 127 [.agg (D0.cells e)] [] (Ret [] (.d (.bool res))):=by
 unfold Fb at hh
 obtain ⟨x1,hx1,hh⟩:=bs' hh
 cases hh
 exact L0.intro hC Tryz.func127 rfl rfl rfl (s' rfl rfl (E0.n hC rfl (e' rfl (p' 2 rfl (c' (T1a hx1) rfl rfl (e' rfl (re' (rt' rfl rfl rfl))))))))
mutual
def X9 (e:D0):Option Int:=
 Gb e 1 0
 partial_fixpoint
def Gb (e:D0)(n:Int)(i:Int):Option Int:=
 if (decide (i < ((e.Kids).length:Int)))=true then
  idx e.Kids i>>=fun x1=>
  X9 x1>>=fun x2=>
  Gb e (IntKind.i64.wrap (n+x2)) (IntKind.i64.wrap (i+1))
 else
  some n
 partial_fixpoint
end
abbrev Sw (e:D0)(res:Int):Prop:=L0 C 157 [.agg (D0.cells e)] [] (Ret [] (.d (.int .i64 res)))
abbrev Z15 (e:D0)(n:Int)(i:Int)(res:Int):Prop:=LM C 21 0 Tryz.f157 [1,1,0,1,4] [(1,.ref 0 0),(3,.d (.int .i64 n)),(4,.d (.int .i64 i))] [.row (D0.cells e) 34] (Ret [] (.d (.int .i64 res)))
theorem S18:(∀ e res,X9 e=some res→Sw e res)∧(∀ e n i res,Gb e n i=some res→Z15 e n i res):=by
 refine X9.mutual_partial_correctness _ _ ?_ ?_
 ·intro g1 ih1 e res hh
  exact L0.intro hC Tryz.func157 rfl rfl rfl (s' rfl rfl (E0.n hC rfl (e' rfl (t' rfl (S' (t' rfl (bk' (fw' (ih1 _ _ _ _ hh) rfl rfl rfl))))))))
 ·intro g0 g1 ih0 ih1 e n i res hh
  refine W0.unroll (S' (p' 3 rfl (qe' rfl trivial (D0.lenA _) (e' rfl (ci' rfl hh (fun hh=>?_) (fun hh=>?_))))))
  ·obtain ⟨x1,hx1,hh⟩:=bs' hh
   obtain ⟨x2,hx2,hh⟩:=bs' hh
   exact sk' (S' (bk' (P' 4 rfl (i' rfl (U0 hx1) (D0.idx hx1) rfl (q' rfl (c' (ih0 _ _ hx2) rfl rfl (e' rfl (T' rfl (lw' (ih1 _ _ _ _ hh) rfl rfl rfl)))))))))
  cases hh
  exact ex' (t' rfl (re' (rt' rfl rfl rfl)))
theorem U1a {e res}(hh:X9 e=some res):Sw e res:=(S18).1 _ _ hh
mutual
def Y9 (e:D0):Option Int:=
 Q8 e 0 0
 partial_fixpoint
def Q8 (e:D0)(d:Int)(i:Int):Option Int:=
 if (decide (i < ((e.Kids).length:Int)))=true then
  idx e.Kids i>>=fun x1=>
  Y9 x1>>=fun x2=>
  if (decide (x2 > d))=true then
   Q8 e x2 (IntKind.i64.wrap (i+1))
  else
   Q8 e d (IntKind.i64.wrap (i+1))
 else
  some (IntKind.i64.wrap (d+1))
 partial_fixpoint
end
abbrev Tw (e:D0)(res:Int):Prop:=L0 C 159 [.agg (D0.cells e)] [] (Ret [] (.d (.int .i64 res)))
abbrev A16 (e:D0)(d:Int)(i:Int)(res:Int):Prop:=LM C 25 0 Tryz.f159 [1,1,0,1,4] [(1,.ref 0 0),(3,.d (.int .i64 d)),(4,.d (.int .i64 i))] [.row (D0.cells e) 34] (Ret [] (.d (.int .i64 res)))
theorem T18:(∀ e res,Y9 e=some res→Tw e res)∧(∀ e d i res,Q8 e d i=some res→A16 e d i res):=by
 refine Y9.mutual_partial_correctness _ _ ?_ ?_
 ·intro g1 ih1 e res hh
  exact L0.intro hC Tryz.func159 rfl rfl rfl (s' rfl rfl (E0.n hC rfl (e' rfl (t' rfl (S' (t' rfl (bk' (fw' (ih1 _ _ _ _ hh) rfl rfl rfl))))))))
 ·intro g0 g1 ih0 ih1 e d i res hh
  refine W0.unroll (S' (p' 3 rfl (qe' rfl trivial (D0.lenA _) (e' rfl (ci' rfl hh (fun hh=>?_) (fun hh=>?_))))))
  ·obtain ⟨x1,hx1,hh⟩:=bs' hh
   obtain ⟨x2,hx2,hh⟩:=bs' hh
   refine sk' (S' (bk' (p' 3 rfl (i' rfl (U0 hx1) (D0.idx hx1) rfl (q' rfl (c' (ih0 _ _ hx2) rfl rfl (e' rfl (t' rfl (ci' rfl hh (fun hh=>?_) (fun hh=>?_))))))))))
   ·exact T' rfl (T' rfl (lw' (ih1 _ _ _ _ hh) rfl rfl rfl))
   exact sk' (T' rfl (lw' (ih1 _ _ _ _ hh) rfl rfl rfl))
  cases hh
  exact ex' (t' rfl (re' (rt' rfl rfl rfl)))
theorem V1a {e res}(hh:Y9 e=some res):Tw e res:=(T18).1 _ _ hh
def Oa (s:V0)(e:D0)(used:Bool):Option V0:=
 (if (!used)=true then Fb e else some default)>>=fun x1=>
 if (bif (!used) then x1 else false)=true then
  some s
 else
  X9 e>>=fun x2=>
  Y9 e>>=fun x3=>
  T5 (V0.mk (IntKind.i64.wrap (s.nodes+x2)) s.depth) x3>>=fun x4=>
  some x4
theorem Il {s e used res}(hh:Oa s e used=some res):L0 C 90 [.agg (V0.cells s),.agg (D0.cells e),.d (.bool used)] [] (Ret [] (.agg (V0.cells res))):=by
 unfold Oa at hh
 obtain ⟨x1,hx1,hh⟩:=bs' hh
 refine L0.intro hC Tryz.func90 rfl rfl rfl (s' rfl rfl (E0.n hC rfl (E0.n hC rfl (E0.n hC rfl (n' (S' (sg' 6 rfl (G' 4 rfl (AG.c rfl rfl (fun hg=>⟨hg,trivial⟩) (fun hw=>Mj (I1 hw hx1)) (pa' rfl (an' (n' (ci' rfl hh (fun hh=>?_) (fun hh=>?_))))))))))))))
 ·cases hh
  exact p' 1 rfl (E0.s hC rfl (n' (re' (rt' rfl rfl rfl))))
 obtain ⟨x2,hx2,hh⟩:=bs' hh
 obtain ⟨x3,hx3,hh⟩:=bs' hh
 obtain ⟨x4,hx4,hh⟩:=bs' hh
 cases hh
 refine sk' (S' (AEx.draw hC 6 rfl rfl rfl (O' 3 rfl (Qc' (U1a hx2) rfl rfl (E' rfl (E0.s hC rfl (n' (S' (AEx.draw hC 4 rfl rfl rfl (O' 2 rfl (Qc' (V1a hx3) rfl rfl (Qc' (Hl hx4) rfl rfl (Qn' ?_)))))))))))))
 exact E0.s hC rfl (n' (re' (rt' rfl rfl rfl)))
def Af (v:Int):Option Bool:=
 some (bif (bif (v == 0) then true else (v == 1)) then true else (v == 2))
theorem Rn {v res}(hh:Af v=some res):L0 C 128 [.d (.int .i64 v)] [] (Ret [] (.d (.bool res))):=by
 unfold Af at hh
 cases hh
 exact L0.intro hC Tryz.func128 rfl rfl rfl (t' rfl (sg' 11 rfl (G' 4 rfl (a1' rfl (po' rfl (G' 2 rfl (a1' rfl (po' rfl (a0' rfl (an' (n' (re' (rt' rfl rfl rfl)))))))))))))
def Bf (v:Int):Option Bool:=
 some (bif (bif (bif (v == 0) then true else (v == 3)) then true else (v == 5)) then true else (v == 6))
theorem Tn {v res}(hh:Bf v=some res):L0 C 130 [.d (.int .i64 v)] [] (Ret [] (.d (.bool res))):=by
 unfold Bf at hh
 cases hh
 refine L0.intro hC Tryz.func130 rfl rfl rfl (t' rfl (sg' 15 rfl (G' 4 rfl (a1' rfl (po' rfl (G' 2 rfl (a1' rfl (po' rfl (G' 2 rfl (a1' rfl (po' rfl (a0' rfl (an' ?_)))))))))))))
 exact n' (re' (rt' rfl rfl rfl))
mutual
def E9 (s:V0)(l:List C0)(d:Int):Option V0:=
 Vc l d s 0
 partial_fixpoint
def Vc (l:List C0)(d:Int)(o01:V0)(i:Int):Option V0:=
 if (decide (i < ((l).length:Int)))=true then
  idx l i>>=fun x1=>
  T5 (V0.mk (IntKind.i64.wrap (o01.nodes+1)) o01.depth) d>>=fun x2=>
  Af x1.Verb>>=fun x3=>
  Oa x2 x1.Place x3>>=fun x4=>
  Bf x1.Verb>>=fun x5=>
  Oa x4 x1.Value x5>>=fun x6=>
  Rf l d x6 x1 i 0
 else
  some o01
 partial_fixpoint
def Rf (l:List C0)(d:Int)(o0:V0)(x1:C0)(i1:Int)(k:Int):Option V0:=
 if (decide (k < ((x1.Args).length:Int)))=true then
  idx x1.Args k>>=fun x7=>
  Oa o0 x7 true>>=fun x8=>
  Rf l d x8 x1 i1 (IntKind.i64.wrap (k+1))
 else
  E9 o0 x1.Then (IntKind.i64.wrap (d+1))>>=fun x9=>
  E9 x9 x1.Else (IntKind.i64.wrap (d+1))>>=fun x10=>
  Vc l d x10 (IntKind.i64.wrap (i1+1))
 partial_fixpoint
end
abbrev Ez (s:V0)(l:List C0)(d:Int)(res:V0):Prop:=L0 C 122 [.agg (V0.cells s),.d (.sl (C0.rows l)),.d (.int .i64 d)] [] (Ret [] (.agg (V0.cells res)))
abbrev U18 (l:List C0)(d:Int)(o01:V0)(i:Int)(res:V0):Prop:=LM C 68 0 Tryz.f122 [1,0,1,4] [(1,.d (.sl (C0.rows l))),(2,.d (.int .i64 d)),(3,.ref 0 0),(6,.ref 1 0),(7,.d (.int .i64 i))] [.row (V0.cells o01) 121,.row [.d (.int .i64 0),.d (.int .i64 0)] 121] (Ret [] (.agg (V0.cells res)))
abbrev V18 (l:List C0)(d:Int)(o0:V0)(x1:C0)(i1:Int)(k:Int)(res:V0):Prop:=LM C 68 0 Tryz.f122 [1,0,1,4,5,1,0,4,1,1,1,1,1,0,1,4] [(1,.d (.sl (C0.rows l))),(2,.d (.int .i64 d)),(3,.ref 0 0),(6,.ref 1 0),(7,.d (.int .i64 i1)),(8,.ref 2 0),(9,.d (.int .i64 k))] [.row (V0.cells o0) 121,.row [.d (.int .i64 0),.d (.int .i64 0)] 121,.row (C0.cells x1) 53] (Ret [] (.agg (V0.cells res)))
theorem W1a:(∀ s l d res,E9 s l d=some res→Ez s l d res)∧(∀ l d o01 i res,Vc l d o01 i=some res→U18 l d o01 i res)∧(∀ l d o0 x1 i1 k res,Rf l d o0 x1 i1 k=some res→V18 l d o0 x1 i1 k res):=by
 refine E9.mutual_partial_correctness _ _ _ ?_ ?_ ?_
 ·intro g1 ih1 s l d res hh
  exact L0.intro hC Tryz.func122 rfl rfl rfl (s' rfl rfl (E0.n hC rfl (E0.n hC rfl (n' (S' (t' rfl (bk' (fw' (ih1 _ _ _ _ _ hh) rfl rfl rfl))))))))
 ·intro g2 ih2 l d o01 i res hh
  refine W0.unroll (S' (p' 2 rfl (qe' rfl trivial (C0.lenA _) (e' rfl (ci' rfl hh (fun hh=>?_) (fun hh=>?_))))))
  ·obtain ⟨x1,hx1,hh⟩:=bs' hh
   obtain ⟨x2,hx2,hh⟩:=bs' hh
   obtain ⟨x3,hx3,hh⟩:=bs' hh
   obtain ⟨x4,hx4,hh⟩:=bs' hh
   obtain ⟨x5,hx5,hh⟩:=bs' hh
   obtain ⟨x6,hx6,hh⟩:=bs' hh
   refine sk' (S' (bk' (p' 2 rfl (i' rfl (U0 hx1) (C0.idx hx1) rfl (q' rfl (E0.nf hC rfl (E0.s hC rfl (n' (p' 4 rfl (E0.s hC rfl (n' (p' 2 rfl (c' (Hl hx2) rfl rfl ?_)))))))))))))
   refine E0.s hC rfl (n' (S' (AEx.draw hC 7 rfl rfl rfl (O' 5 rfl (Qc' (Rn hx3) rfl rfl (Qc' (Il hx4) rfl rfl (Qn' (E0.s hC rfl (n' (S' (AEx.draw hC 7 rfl rfl rfl (O' 5 rfl (Qc' (Tn hx5) rfl rfl ?_)))))))))))))
   exact Qc' (Il hx6) rfl rfl (Qn' (E0.s hC rfl (n' (S' (t' rfl (bk' (fw' (ih2 _ _ _ _ _ _ _ hh) rfl rfl rfl)))))))
  cases hh
  exact ex' (p' 1 rfl (E0.s hC rfl (n' (re' (rt' rfl rfl rfl)))))
 ·intro g0 g1 g2 ih0 ih1 ih2 l d o0 x1 i1 k res hh
  refine W0.unroll (S' (p' 3 rfl (qe' rfl trivial (D0.lenA _) (e' rfl (ci' rfl hh (fun hh=>?_) (fun hh=>?_))))))
  ·obtain ⟨x7,hx7,hh⟩:=bs' hh
   obtain ⟨x8,hx8,hh⟩:=bs' hh
   exact sk' (S' (bk' (AEx.draw hC 7 rfl rfl rfl (O' 4 rfl (AQ.i hC rfl (U0 hx7) (D0.idx hx7) rfl (Q' rfl (Qc' (Il hx8) rfl rfl (Qn' (E0.s hC rfl (n' (T' rfl (lw' (ih2 _ _ _ _ _ _ _ hh) rfl rfl rfl))))))))))))
  obtain ⟨x9,hx9,hh⟩:=bs' hh
  obtain ⟨x10,hx10,hh⟩:=bs' hh
  exact ex' (p' 5 rfl (c' (ih0 _ _ _ _ hx9) rfl rfl (E0.s hC rfl (n' (P' 5 rfl (c' (ih0 _ _ _ _ hx10) rfl rfl (E0.s hC rfl (n' (T' rfl (lw' (ih1 _ _ _ _ _ hh) rfl rfl rfl))))))))))
theorem Uw {s l d res}(hh:E9 s l d=some res):Ez s l d res:=(W1a).1 _ _ _ _ hh
mutual
def Hb (s:V0)(l:List B0):Option V0:=
 Wc l s 0
 partial_fixpoint
def Wc (l:List B0)(o0:V0)(i:Int):Option V0:=
 if (decide (i < ((l).length:Int)))=true then
  idx l i>>=fun x1=>
  Ek x1.Kind>>=fun x2=>
  Bd (V0.mk (IntKind.i64.wrap (o0.nodes+1)) o0.depth) x1.TypeV x2>>=fun x3=>
  Ze x1.Kind>>=fun x4=>
  Oa x3 x1.Value x4>>=fun x5=>
  Hb x5 x1.Params>>=fun x6=>
  Hb x6 x1.Vars>>=fun x7=>
  E9 x7 x1.Body 1>>=fun x8=>
  Wc l x8 (IntKind.i64.wrap (i+1))
 else
  some o0
 partial_fixpoint
end
abbrev Fz (s:V0)(l:List B0)(res:V0):Prop:=L0 C 123 [.agg (V0.cells s),.d (.sl (B0.rows l))] [] (Ret [] (.agg (V0.cells res)))
abbrev W18 (l:List B0)(o0:V0)(i:Int)(res:V0):Prop:=LM C 48 0 Tryz.f123 [1,0,1,4] [(1,.d (.sl (B0.rows l))),(2,.ref 0 0),(4,.ref 1 0),(5,.d (.int .i64 i))] [.row (V0.cells o0) 121,.row [.d (.int .i64 0),.d (.int .i64 0)] 121] (Ret [] (.agg (V0.cells res)))
theorem X1a:(∀ s l res,Hb s l=some res→Fz s l res)∧(∀ l o0 i res,Wc l o0 i=some res→W18 l o0 i res):=by
 refine Hb.mutual_partial_correctness _ _ ?_ ?_
 ·intro g1 ih1 s l res hh
  exact L0.intro hC Tryz.func123 rfl rfl rfl (s' rfl rfl (E0.n hC rfl (E0.n hC rfl (n' (S' (t' rfl (bk' (fw' (ih1 _ _ _ _ hh) rfl rfl rfl))))))))
 ·intro g0 g1 ih0 ih1 l o0 i res hh
  refine W0.unroll (S' (p' 2 rfl (qe' rfl trivial (B0.lenA _) (e' rfl (ci' rfl hh (fun hh=>?_) (fun hh=>?_))))))
  ·obtain ⟨x1,hx1,hh⟩:=bs' hh
   obtain ⟨x2,hx2,hh⟩:=bs' hh
   obtain ⟨x3,hx3,hh⟩:=bs' hh
   obtain ⟨x4,hx4,hh⟩:=bs' hh
   obtain ⟨x5,hx5,hh⟩:=bs' hh
   obtain ⟨x6,hx6,hh⟩:=bs' hh
   obtain ⟨x7,hx7,hh⟩:=bs' hh
   obtain ⟨x8,hx8,hh⟩:=bs' hh
   refine sk' (S' (bk' (p' 2 rfl (i' rfl (U0 hx1) (B0.idx hx1) rfl (q' rfl (E0.nf hC rfl (E0.s hC rfl (n' (p' 4 rfl (E0.s hC rfl (n' (S' (AEx.draw hC 7 rfl rfl rfl ?_)))))))))))))
   refine O' 5 rfl (Qc' (Mw hx2) rfl rfl (Qc' (Dz hx3) rfl rfl (Qn' (E0.s hC rfl (n' (S' (AEx.draw hC 7 rfl rfl rfl (O' 5 rfl (Qc' (Qn hx4) rfl rfl (Qc' (Il hx5) rfl rfl (Qn' (E0.s hC rfl (n' ?_)))))))))))))
   exact p' 3 rfl (c' (ih0 _ _ _ hx6) rfl rfl (E0.s hC rfl (n' (p' 3 rfl (c' (ih0 _ _ _ hx7) rfl rfl (E0.s hC rfl (n' (P' 3 rfl (c' (Uw hx8) rfl rfl (E0.s hC rfl (n' (T' rfl (lw' (ih1 _ _ _ _ hh) rfl rfl rfl)))))))))))))
  cases hh
  exact ex' (p' 1 rfl (E0.s hC rfl (n' (re' (rt' rfl rfl rfl)))))
theorem W1d {s l res}(hh:Hb s l=some res):Fz s l res:=(X1a).1 _ _ _ hh
def Pp (p:F0):Option V0:=
 Hb (V0.mk 0 0) p.Decls>>=fun x1=>
 E9 x1 p.Body 1>>=fun x2=>
 some x2
theorem I1l {p res}(hh:Pp p=some res):L0 C 65 [.agg (F0.cells p)] [] (Ret [] (.agg (V0.cells res))):=by
 unfold Pp at hh
 obtain ⟨x1,hx1,hh⟩:=bs' hh
 obtain ⟨x2,hx2,hh⟩:=bs' hh
 cases hh
 refine L0.intro hC Tryz.func65 rfl rfl rfl (s' rfl rfl (E0.n hC rfl (E0.n hC rfl (n' (S' (AEx.draw hC 7 rfl rfl rfl (O' 3 rfl (Qc' (W1d hx1) rfl rfl (O' 2 rfl (Qc' (Uw hx2) rfl rfl (Qn' (E0.s hC rfl (n' ?_)))))))))))))
 exact re' (rt' rfl rfl rfl)
mutual
def F9 (t:A0):Option Bool:=
 if (bif (decide (t.Kind < 0)) then true else (decide (t.Kind > 4)))=true then
  some false
 else
  if (bif (bif (bif (bif (t.Kind != 1) then (bif (t.Low != 0) then true else (t.High != 0)) else false) then true else (bif (t.Kind != 2) then (t.Size != 0) else false)) then true else (bif (t.Kind != 4) then (!(t.Name == [])) else false)) then true else (bif (t.Kind != 3) then (((t.Names).length:Int) != 0) else false))=true then
   some false
  else
   if (bif (bif (bif (t.Kind == 2) then (((t.Of).length:Int) != 1) else false) then true else (bif (t.Kind == 3) then (bif (decide (((t.Of).length:Int) < 1)) then true else (((t.Of).length:Int) != ((t.Names).length:Int))) else false)) then true else (bif (bif (t.Kind != 2) then (t.Kind != 3) else false) then (((t.Of).length:Int) != 0) else false))=true then
    some false
   else
    Xc t 0
 partial_fixpoint
def Xc (t:A0)(i:Int):Option Bool:=
 if (decide (i < ((t.Of).length:Int)))=true then
  idx t.Of i>>=fun x1=>
  F9 x1>>=fun x2=>
  if (!x2)=true then
   some false
  else
   Xc t (IntKind.i64.wrap (i+1))
 else
  some true
 partial_fixpoint
end
abbrev Gz (t:A0)(res:Bool):Prop:=L0 C 125 [.agg (A0.cells t)] [] (Ret [] (.d (.bool res)))
abbrev X18 (t:A0)(i:Int)(res:Bool):Prop:=LM C 115 0 Tryz.f125 [1,1,1,1,0,1,4] [(1,.ref 0 0),(3,.d (.int .i64 i))] [.row (A0.cells t) 40] (Ret [] (.d (.bool res)))
theorem Y1a:(∀ t res,F9 t=some res→Gz t res)∧(∀ t i res,Xc t i=some res→X18 t i res):=by
 refine F9.mutual_partial_correctness _ _ ?_ ?_
 ·intro g1 ih1 t res hh
  refine L0.intro hC Tryz.func125 rfl rfl rfl (s' rfl rfl (E0.n hC rfl (e' rfl (S' (sg' 8 rfl (G' 5 rfl (a1' rfl (a1' rfl (po' rfl (an' (n' (ci' rfl hh (fun hh=>?_) (fun hh=>?_)))))))))))))
  ·cases hh
   exact t' rfl (re' (rt' rfl rfl rfl))
  refine sk' (S' (sg' 44 rfl (G' 5 rfl (a1' rfl (a1' rfl (a1' rfl (a0' rfl (a1' rfl (a1' rfl (pO' rfl (pa' rfl (G' 2 rfl (a1' rfl ?_)))))))))))))
  refine a1' rfl (a1' rfl (a0' rfl (a1' rfl (a1' rfl (pA' rfl (po' rfl (G' 2 rfl (a1' rfl (a1' rfl (a1' rfl (a0' rfl (a1' rfl (a1' rfl ?_)))))))))))))
  refine pA' rfl (po' rfl (G' 2 rfl (a1' rfl (a1' rfl (a1' rfl (a0' rfl (a1' rfl (AG.qe hC rfl (fun hg=>⟨⟨hg,trivial⟩,trivial⟩) (estr.lenA _) (a1' rfl (pA' rfl (po' rfl (an' (n' (ci' rfl hh (fun hh=>?_) (fun hh=>?_)))))))))))))))
  ·cases hh
   exact t' rfl (re' (rt' rfl rfl rfl))
  refine sk' (S' (sg' 45 rfl (G' 5 rfl (a1' rfl (AG.qe hC rfl (fun hg=>⟨⟨hg,trivial⟩,trivial⟩) (A0.lenA _) (a1' rfl (pa' rfl (G' 2 rfl (a1' rfl (a1' rfl (a1' rfl (a0' rfl (a1' rfl ?_)))))))))))))
  refine AG.qe hC rfl (fun hg=>⟨⟨hg,trivial⟩,trivial⟩) (A0.lenA _) (a1' rfl (a1' rfl (a0' rfl (a1' rfl (AG.qe hC rfl (fun hg=>⟨⟨hg,trivial⟩,trivial⟩) (A0.lenA _) (a0' rfl (a1' rfl (AG.qe hC rfl (fun hg=>⟨⟨hg,trivial⟩,trivial⟩) (estr.lenA _) (a2' rfl (pO' rfl (pA' rfl (po' rfl (G' 2 rfl ?_)))))))))))))
  refine a1' rfl (a1' rfl (a1' rfl (a0' rfl (a1' rfl (a1' rfl (pA' rfl (a1' rfl (a0' rfl (a1' rfl (AG.qe hC rfl (fun hg=>⟨⟨hg,trivial⟩,trivial⟩) (A0.lenA _) (a1' rfl (pA' rfl (po' rfl ?_)))))))))))))
  refine an' (n' (ci' rfl hh (fun hh=>?_) (fun hh=>?_)))
  ·cases hh
   exact t' rfl (re' (rt' rfl rfl rfl))
  exact sk' (S' (t' rfl (bk' (fw' (ih1 _ _ _ hh) rfl rfl rfl))))
 ·intro g0 g1 ih0 ih1 t i res hh
  refine W0.unroll (S' (p' 3 rfl (qe' rfl trivial (A0.lenA _) (e' rfl (ci' rfl hh (fun hh=>?_) (fun hh=>?_))))))
  ·obtain ⟨x1,hx1,hh⟩:=bs' hh
   obtain ⟨x2,hx2,hh⟩:=bs' hh
   refine sk' (S' (bk' (p' 3 rfl (i' rfl (U0 hx1) (A0.idx hx1) rfl (q' rfl (c' (ih0 _ _ hx2) rfl rfl (e' rfl (ci' rfl hh (fun hh=>?_) (fun hh=>?_)))))))))
   ·cases hh
    exact t' rfl (re' (rt' rfl rfl rfl))
   exact sk' (T' rfl (lw' (ih1 _ _ _ hh) rfl rfl rfl))
  cases hh
  exact ex' (t' rfl (re' (rt' rfl rfl rfl)))
theorem Ww {t res}(hh:F9 t=some res):Gz t res:=(Y1a).1 _ _ hh
end Go.Proofs.YtdkabnfphmmmnaaGreatDoor

set_option maxRecDepth 100000
set_option maxHeartbeats 4000000
set_option synthInstance.maxSize 20000
set_option linter.unusedVariables false
namespace Go.Proofs.YtdkabnfphmmmnaaGreatDoor
open Go.Am
def As (o:Int):Option Int:=
 if (bif (bif (bif (o == 0) then true else (o == 1)) then true else (o == 2)) then true else (o == 3))=true then
  some 0
 else
  if (bif (bif (o == 4) then true else (o == 6)) then true else (o == 7))=true then
   some 1
  else
   if (bif (o == 5) then true else (bif (decide (o≥8)) then (decide (o≤22)) else false))=true then
    some 2
   else
    if (o == 23)=true then
     some 3
    else
     some (-1)
theorem D1o {o res}(hh:As o=some res):L0 C 160 [.d (.int .i64 o)] [] (Ret [] (.d (.int .i64 res))):=by
 unfold As at hh
 refine L0.intro hC Tryz.func160 rfl rfl rfl (t' rfl (S' (sg' 14 rfl (G' 4 rfl (a1' rfl (po' rfl (G' 2 rfl (a1' rfl (po' rfl (G' 2 rfl (a1' rfl (po' rfl (an' ?_)))))))))))))
 refine n' (ci' rfl hh (fun hh=>?_) (fun hh=>?_))
 ·cases hh
  exact t' rfl (re' (rt' rfl rfl rfl))
 refine sk' (S' (sg' 10 rfl (G' 4 rfl (a1' rfl (po' rfl (G' 2 rfl (a1' rfl (po' rfl (an' (n' (ci' rfl hh (fun hh=>?_) (fun hh=>?_))))))))))))
 ·cases hh
  exact t' rfl (re' (rt' rfl rfl rfl))
 refine sk' (S' (sg' 10 rfl (G' 4 rfl (a1' rfl (a1' rfl (a0' rfl (a1' rfl (pA' rfl (po' rfl (an' (n' (ci' rfl hh (fun hh=>?_) (fun hh=>?_)))))))))))))
 ·cases hh
  exact t' rfl (re' (rt' rfl rfl rfl))
 refine sk' (S' (t' rfl (ci' rfl hh (fun hh=>?_) (fun hh=>?_))))
 ·cases hh
  exact t' rfl (re' (rt' rfl rfl rfl))
 cases hh
 exact sk' (t' rfl (re' (rt' rfl rfl rfl)))
def Cd (e:D0):Option Bool:=
 if (e.Op == 3)=true then
  some true
 else
  (if (bif (bif (e.Op == 4) then true else (e.Op == 5)) then (decide (((e.Kids).length:Int) > 0)) else false)=true then idx e.Kids 0 else some default)>>=fun x1=>
  (if (bif (bif (e.Op == 4) then true else (e.Op == 5)) then (decide (((e.Kids).length:Int) > 0)) else false)=true then Cd x1 else some default)>>=fun x2=>
  some (bif (bif (bif (e.Op == 4) then true else (e.Op == 5)) then (decide (((e.Kids).length:Int) > 0)) else false) then x2 else false)
 partial_fixpoint
abbrev D11 (e:D0)(res:Bool):Prop:=L0 C 129 [.agg (D0.cells e)] [] (Ret [] (.d (.bool res)))
theorem X1d:(∀ e res,Cd e=some res→D11 e res):=by
 refine Cd.partial_correctness _ ?_
 ·intro g0 ih0 e res hh
  refine L0.intro hC Tryz.func129 rfl rfl rfl (s' rfl rfl (E0.n hC rfl (e' rfl (S' (t' rfl (ci' rfl hh (fun hh=>?_) (fun hh=>?_)))))))
  ·cases hh
   exact t' rfl (re' (rt' rfl rfl rfl))
  obtain ⟨x1,hx1,hh⟩:=bs' hh
  obtain ⟨x2,hx2,hh⟩:=bs' hh
  cases hh
  refine sk' (sg' 22 rfl (G' 5 rfl (a1' rfl (a1' rfl (po' rfl (G' 2 rfl (a1' rfl (AG.qe hC rfl (fun hg=>⟨⟨hg,trivial⟩,trivial⟩) (D0.lenA _) (a1' rfl (pa' rfl (G' 2 rfl (a1' rfl (AG.i hC rfl rfl (fun hg=>⟨hg,trivial⟩) (fun hw=>⟨U0 (I1 hw hx1),D0.idx (I1 hw hx1),rfl⟩) ?_)))))))))))))
  exact a1' rfl (AG.c rfl rfl (fun hg=>⟨hg,trivial⟩) (fun hw=>ih0 _ _ (I1 hw hx2)) (pa' rfl (a0' rfl (an' (n' (re' (rt' rfl rfl rfl)))))))
theorem Hz {e res}(hh:Cd e=some res):D11 e res:=(X1d) _ _ hh
mutual
def A5 (e:D0):Option Bool:=
 As e.Op>>=fun x1=>
 if (bif (bif (x1 != ((e.Kids).length:Int)) then true else (bif (e.Op != 0) then (e.NV != 0) else false)) then true else (bif (bif (e.Op != 3) then (e.Op != 4) else false) then (!(e.Name == [])) else false))=true then
  some false
 else
  (if (bif (e.Op == 4) then true else (e.Op == 5))=true then Cd e else some default)>>=fun x2=>
  if (bif (bif (e.Op == 4) then true else (e.Op == 5)) then (!x2) else false)=true then
   some false
  else
   Yc e 0
 partial_fixpoint
def Yc (e:D0)(i:Int):Option Bool:=
 if (decide (i < ((e.Kids).length:Int)))=true then
  idx e.Kids i>>=fun x3=>
  A5 x3>>=fun x4=>
  if (!x4)=true then
   some false
  else
   Yc e (IntKind.i64.wrap (i+1))
 else
  some true
 partial_fixpoint
end
abbrev Iz (e:D0)(res:Bool):Prop:=L0 C 91 [.agg (D0.cells e)] [] (Ret [] (.d (.bool res)))
abbrev Y18 (e:D0)(i:Int)(res:Bool):Prop:=LM C 63 0 Tryz.f91 [1,1,1,0,1,4] [(1,.ref 0 0),(3,.d (.int .i64 i))] [.row (D0.cells e) 34] (Ret [] (.d (.bool res)))
theorem Z1a:(∀ e res,A5 e=some res→Iz e res)∧(∀ e i res,Yc e i=some res→Y18 e i res):=by
 refine A5.mutual_partial_correctness _ _ ?_ ?_
 ·intro g1 ih1 e res hh
  obtain ⟨x1,hx1,hh⟩:=bs' hh
  refine L0.intro hC Tryz.func91 rfl rfl rfl (s' rfl rfl (E0.n hC rfl (e' rfl (S' (S' (AEx.drawG hC 32 rfl rfl rfl (G' 2 rfl (AG.c rfl rfl (fun _=>trivial) (fun _=>D1o hx1) (G' 2 rfl (AG.qe hC rfl (fun hg=>⟨trivial,trivial⟩) (D0.lenA _) (G' 3 rfl (a1' rfl (a1' rfl ?_)))))))))))))
  refine a1' rfl (a0' rfl (a1' rfl (a1' rfl (pA' rfl (po' rfl (G' 2 rfl (a1' rfl (a1' rfl (a1' rfl (a0' rfl (a1' rfl (a1' rfl (pA' rfl ?_)))))))))))))
  refine a1' rfl (a0' rfl (a1' rfl (a1' rfl (pA' rfl (po' rfl (an' (n' (ci' rfl hh (fun hh=>?_) (fun hh=>?_)))))))))
  ·cases hh
   exact t' rfl (re' (rt' rfl rfl rfl))
  obtain ⟨x2,hx2,hh⟩:=bs' hh
  refine sk' (S' (sg' 13 rfl (G' 5 rfl (a1' rfl (a1' rfl (po' rfl (G' 2 rfl (AG.c rfl rfl (fun hg=>⟨hg,trivial⟩) (fun hw=>Hz (I1 hw hx2)) (a1' rfl (pa' rfl (an' (n' (ci' rfl hh (fun hh=>?_) (fun hh=>?_))))))))))))))
  ·cases hh
   exact t' rfl (re' (rt' rfl rfl rfl))
  exact sk' (S' (t' rfl (bk' (fw' (ih1 _ _ _ hh) rfl rfl rfl))))
 ·intro g0 g1 ih0 ih1 e i res hh
  refine W0.unroll (S' (p' 3 rfl (qe' rfl trivial (D0.lenA _) (e' rfl (ci' rfl hh (fun hh=>?_) (fun hh=>?_))))))
  ·obtain ⟨x3,hx3,hh⟩:=bs' hh
   obtain ⟨x4,hx4,hh⟩:=bs' hh
   refine sk' (S' (bk' (p' 3 rfl (i' rfl (U0 hx3) (D0.idx hx3) rfl (q' rfl (c' (ih0 _ _ hx4) rfl rfl (e' rfl (ci' rfl hh (fun hh=>?_) (fun hh=>?_)))))))))
   ·cases hh
    exact t' rfl (re' (rt' rfl rfl rfl))
   exact sk' (T' rfl (lw' (ih1 _ _ _ hh) rfl rfl rfl))
  cases hh
  exact ex' (t' rfl (re' (rt' rfl rfl rfl)))
theorem Nj {e res}(hh:A5 e=some res):Iz e res:=(Z1a).1 _ _ hh
def Gk (v:Int):Option Bool:=
 some (bif (bif (v == 1) then true else (v == 2)) then true else (v == 7))
theorem Xw {v res}(hh:Gk v=some res):L0 C 106 [.d (.int .i64 v)] [] (Ret [] (.d (.bool res))):=by
 unfold Gk at hh
 cases hh
 exact L0.intro hC Tryz.func106 rfl rfl rfl (t' rfl (sg' 11 rfl (G' 4 rfl (a1' rfl (po' rfl (G' 2 rfl (a1' rfl (po' rfl (a0' rfl (an' (n' (re' (rt' rfl rfl rfl)))))))))))))
def Pu (v:Int):Option Bool:=
 some (bif (v == 4) then true else (v == 6))
theorem J1l {v res}(hh:Pu v=some res):L0 C 131 [.d (.int .i64 v)] [] (Ret [] (.d (.bool res))):=by
 unfold Pu at hh
 cases hh
 exact L0.intro hC Tryz.func131 rfl rfl rfl (t' rfl (sg' 7 rfl (G' 4 rfl (a1' rfl (po' rfl (a0' rfl (an' (n' (re' (rt' rfl rfl rfl))))))))))
def Oo (v:Int):Option Bool:=
 some (bif (bif (v == 5) then true else (v == 6)) then true else (v == 7))
theorem Y1d {v res}(hh:Oo v=some res):L0 C 132 [.d (.int .i64 v)] [] (Ret [] (.d (.bool res))):=by
 unfold Oo at hh
 cases hh
 exact L0.intro hC Tryz.func132 rfl rfl rfl (t' rfl (sg' 11 rfl (G' 4 rfl (a1' rfl (po' rfl (G' 2 rfl (a1' rfl (po' rfl (a0' rfl (an' (n' (re' (rt' rfl rfl rfl)))))))))))))
mutual
def U7 (l:List C0):Option Bool:=
 Ib l 0
 partial_fixpoint
def Ib (l:List C0)(i:Int):Option Bool:=
 if (decide (i < ((l).length:Int)))=true then
  idx l i>>=fun x1=>
  if (bif (decide (x1.Verb < 0)) then true else (decide (x1.Verb > 8)))=true then
   some false
  else
   Af x1.Verb>>=fun x2=>
   (if x2=true then Cd x1.Place else some default)>>=fun x3=>
   (if (x2&&(!(!x3)))=true then A5 x1.Place else some default)>>=fun x4=>
   (if (!(bif x2 then (bif (!x3) then true else (!x4)) else false))=true then Af x1.Verb else some default)>>=fun x5=>
   (if ((!(bif x2 then (bif (!x3) then true else (!x4)) else false))&&(!x5))=true then Fb x1.Place else some default)>>=fun x6=>
   if (bif (bif x2 then (bif (!x3) then true else (!x4)) else false) then true else (bif (!x5) then (!x6) else false))=true then
    some false
   else
    Bf x1.Verb>>=fun x7=>
    (if x7=true then A5 x1.Value else some default)>>=fun x8=>
    (if (!(bif x7 then (!x8) else false))=true then Bf x1.Verb else some default)>>=fun x9=>
    (if ((!(bif x7 then (!x8) else false))&&(!x9))=true then Fb x1.Value else some default)>>=fun x10=>
    if (bif (bif x7 then (!x8) else false) then true else (bif (!x9) then (!x10) else false))=true then
     some false
    else
     Gk x1.Verb>>=fun x11=>
     (if (!(bif (bif (!x11) then (!(x1.Name == [])) else false) then true else (bif (x1.Verb != 1) then (((x1.Args).length:Int) != 0) else false)))=true then Pu x1.Verb else some default)>>=fun x12=>
     if (bif (bif (bif (bif (bif (!x11) then (!(x1.Name == [])) else false) then true else (bif (x1.Verb != 1) then (((x1.Args).length:Int) != 0) else false)) then true else (bif (!x12) then (x1.NV != 0) else false)) then true else (bif (x1.Verb != 7) then (bif (x1.Low != 0) then true else (x1.High != 0)) else false)) then true else (bif (x1.Verb != 8) then (((x1.Numbers).length:Int) != 0) else false))=true then
      some false
     else
      Oo x1.Verb>>=fun x13=>
      if (bif (bif (!x13) then (((x1.Then).length:Int) != 0) else false) then true else (bif (x1.Verb != 5) then (((x1.Else).length:Int) != 0) else false))=true then
       some false
      else
       Oe l x1 i 0
 else
  some true
 partial_fixpoint
def Oe (l:List C0)(x1:C0)(i1:Int)(k:Int):Option Bool:=
 if (decide (k < ((x1.Args).length:Int)))=true then
  idx x1.Args k>>=fun x14=>
  A5 x14>>=fun x15=>
  if (!x15)=true then
   some false
  else
   Oe l x1 i1 (IntKind.i64.wrap (k+1))
 else
  U7 x1.Then>>=fun x16=>
  (if (!(!x16))=true then U7 x1.Else else some default)>>=fun x17=>
  if (bif (!x16) then true else (!x17))=true then
   some false
  else
   Ib l (IntKind.i64.wrap (i1+1))
 partial_fixpoint
end
abbrev Yw (l:List C0)(res:Bool):Prop:=L0 C 67 [.d (.sl (C0.rows l))] [] (Ret [] (.d (.bool res)))
abbrev B16 (l:List C0)(i:Int)(res:Bool):Prop:=LM C 174 0 Tryz.f67 [1,0,1,4] [(0,.d (.sl (C0.rows l))),(3,.d (.int .i64 i))] [] (Ret [] (.d (.bool res)))
abbrev C16 (l:List C0)(x1:C0)(i1:Int)(k:Int)(res:Bool):Prop:=LM C 174 0 Tryz.f67 [1,0,1,4,5,1,0,4,1,1,1,1,1,1,0,1,4] [(0,.d (.sl (C0.rows l))),(3,.d (.int .i64 i1)),(4,.ref 0 0),(5,.d (.int .i64 k))] [.row (C0.cells x1) 53] (Ret [] (.d (.bool res)))
theorem Z18:(∀ l res,U7 l=some res→Yw l res)∧(∀ l i res,Ib l i=some res→B16 l i res)∧(∀ l x1 i1 k res,Oe l x1 i1 k=some res→C16 l x1 i1 k res):=by
 refine U7.mutual_partial_correctness _ _ _ ?_ ?_ ?_
 ·intro g1 ih1 l res hh
  exact L0.intro hC Tryz.func67 rfl rfl rfl (t' rfl (S' (t' rfl (bk' (fw' (ih1 _ _ _ hh) rfl rfl rfl)))))
 ·intro g2 ih2 l i res hh
  refine W0.unroll (S' (p' 2 rfl (qe' rfl trivial (C0.lenA _) (e' rfl (ci' rfl hh (fun hh=>?_) (fun hh=>?_))))))
  ·obtain ⟨x1,hx1,hh⟩:=bs' hh
   refine sk' (S' (bk' (p' 2 rfl (i' rfl (U0 hx1) (C0.idx hx1) rfl (q' rfl (E0.nf hC rfl (E0.s hC rfl (n' (S' (sg' 8 rfl (G' 5 rfl (a1' rfl (a1' rfl ?_)))))))))))))
   refine po' rfl (an' (n' (ci' rfl hh (fun hh=>?_) (fun hh=>?_))))
   ·cases hh
    exact t' rfl (re' (rt' rfl rfl rfl))
   obtain ⟨x2,hx2,hh⟩:=bs' hh
   obtain ⟨x3,hx3,hh⟩:=bs' hh
   obtain ⟨x4,hx4,hh⟩:=bs' hh
   obtain ⟨x5,hx5,hh⟩:=bs' hh
   obtain ⟨x6,hx6,hh⟩:=bs' hh
   refine sk' (S' (sg' 27 rfl (G' 2 rfl (AG.c rfl rfl (fun _=>trivial) (fun _=>Rn hx2) (G' 2 rfl (a1' rfl (AG.c rfl rfl (fun hg=>⟨hg,trivial⟩) (fun hw=>Hz (I1 hw hx3)) (a1' rfl (a1' rfl (a0' rfl (a1' rfl (AG.c rfl rfl (fun hg=>⟨hg,trivial⟩) (fun hw=>Nj (I1 hw hx4)) (a1' rfl ?_)))))))))))))
   refine pO' rfl (pa' rfl (G' 2 rfl (a1' rfl (AG.c rfl rfl (fun hg=>⟨hg,trivial⟩) (fun hw=>Rn (I1 hw hx5)) (a1' rfl (a1' rfl (a0' rfl (a1' rfl (AG.c rfl rfl (fun hg=>⟨hg,trivial⟩) (fun hw=>Mj (I1 hw hx6)) (a1' rfl (pA' rfl (po' rfl (an' ?_)))))))))))))
   refine n' (ci' rfl hh (fun hh=>?_) (fun hh=>?_))
   ·cases hh
    exact t' rfl (re' (rt' rfl rfl rfl))
   obtain ⟨x7,hx7,hh⟩:=bs' hh
   obtain ⟨x8,hx8,hh⟩:=bs' hh
   obtain ⟨x9,hx9,hh⟩:=bs' hh
   obtain ⟨x10,hx10,hh⟩:=bs' hh
   refine sk' (S' (sg' 21 rfl (G' 2 rfl (AG.c rfl rfl (fun _=>trivial) (fun _=>Tn hx7) (G' 2 rfl (a1' rfl (AG.c rfl rfl (fun hg=>⟨hg,trivial⟩) (fun hw=>Nj (I1 hw hx8)) (a1' rfl (pa' rfl (G' 2 rfl (a1' rfl (AG.c rfl rfl (fun hg=>⟨hg,trivial⟩) (fun hw=>Tn (I1 hw hx9)) (a1' rfl ?_)))))))))))))
   refine a1' rfl (a0' rfl (a1' rfl (AG.c rfl rfl (fun hg=>⟨hg,trivial⟩) (fun hw=>Mj (I1 hw hx10)) (a1' rfl (pA' rfl (po' rfl (an' (n' (ci' rfl hh (fun hh=>?_) (fun hh=>?_))))))))))
   ·cases hh
    exact t' rfl (re' (rt' rfl rfl rfl))
   obtain ⟨x11,hx11,hh⟩:=bs' hh
   obtain ⟨x12,hx12,hh⟩:=bs' hh
   refine sk' (S' (sg' 57 rfl (G' 2 rfl (AG.c rfl rfl (fun _=>trivial) (fun _=>Xw hx11) (G' 3 rfl (a1' rfl (a1' rfl (pa' rfl (G' 2 rfl (a1' rfl (a1' rfl (a1' rfl (a0' rfl ?_)))))))))))))
   refine a1' rfl (AG.qe hC rfl (fun hg=>⟨⟨hg,trivial⟩,trivial⟩) (D0.lenA _) (a1' rfl (pA' rfl (po' rfl (G' 2 rfl (a1' rfl (AG.c rfl rfl (fun hg=>⟨hg,trivial⟩) (fun hw=>J1l (I1 hw hx12)) (a1' rfl (a1' rfl (a0' rfl (a1' rfl (a1' rfl (pA' rfl ?_)))))))))))))
   refine po' rfl (G' 2 rfl (a1' rfl (a1' rfl (a1' rfl (a0' rfl (a1' rfl (a1' rfl (a1' rfl (a0' rfl (a1' rfl (a1' rfl (pO' rfl (pA' rfl ?_)))))))))))))
   refine po' rfl (G' 2 rfl (a1' rfl (a1' rfl (a1' rfl (a0' rfl (a1' rfl (AG.qe hC rfl (fun hg=>⟨⟨hg,trivial⟩,trivial⟩) (ei64.lenA _) (a1' rfl (pA' rfl (po' rfl (an' (n' (ci' rfl hh (fun hh=>?_) (fun hh=>?_))))))))))))))
   ·cases hh
    exact t' rfl (re' (rt' rfl rfl rfl))
   obtain ⟨x13,hx13,hh⟩:=bs' hh
   refine sk' (S' (sg' 21 rfl (G' 2 rfl (AG.c rfl rfl (fun _=>trivial) (fun _=>Y1d hx13) (G' 3 rfl (a1' rfl (AG.qe hC rfl (fun hg=>⟨⟨hg,trivial⟩,trivial⟩) (C0.lenA _) (a1' rfl (pa' rfl (G' 2 rfl (a1' rfl (a1' rfl (a1' rfl ?_)))))))))))))
   refine a0' rfl (a1' rfl (AG.qe hC rfl (fun hg=>⟨⟨hg,trivial⟩,trivial⟩) (C0.lenA _) (a1' rfl (pA' rfl (po' rfl (an' (n' (ci' rfl hh (fun hh=>?_) (fun hh=>?_)))))))))
   ·cases hh
    exact t' rfl (re' (rt' rfl rfl rfl))
   exact sk' (S' (t' rfl (bk' (fw' (ih2 _ _ _ _ _ hh) rfl rfl rfl))))
  cases hh
  exact ex' (t' rfl (re' (rt' rfl rfl rfl)))
 ·intro g0 g1 g2 ih0 ih1 ih2 l x1 i1 k res hh
  refine W0.unroll (S' (p' 3 rfl (qe' rfl trivial (D0.lenA _) (e' rfl (ci' rfl hh (fun hh=>?_) (fun hh=>?_))))))
  ·obtain ⟨x14,hx14,hh⟩:=bs' hh
   obtain ⟨x15,hx15,hh⟩:=bs' hh
   refine sk' (S' (bk' (p' 3 rfl (i' rfl (U0 hx14) (D0.idx hx14) rfl (q' rfl (c' (Nj hx15) rfl rfl (e' rfl (ci' rfl hh (fun hh=>?_) (fun hh=>?_)))))))))
   ·cases hh
    exact t' rfl (re' (rt' rfl rfl rfl))
   exact sk' (T' rfl (lw' (ih2 _ _ _ _ _ hh) rfl rfl rfl))
  obtain ⟨x16,hx16,hh⟩:=bs' hh
  obtain ⟨x17,hx17,hh⟩:=bs' hh
  refine ex' (sg' 10 rfl (G' 2 rfl (AG.c rfl rfl (fun _=>trivial) (fun _=>ih0 _ _ hx16) (G' 3 rfl (a1' rfl (AG.c rfl rfl (fun hg=>⟨hg,trivial⟩) (fun hw=>ih0 _ _ (I1 hw hx17)) (a1' rfl (po' rfl (an' (n' (ci' rfl hh (fun hh=>?_) (fun hh=>?_))))))))))))
  ·cases hh
   exact t' rfl (re' (rt' rfl rfl rfl))
  exact sk' (T' rfl (lw' (ih1 _ _ _ hh) rfl rfl rfl))
theorem Lv {l res}(hh:U7 l=some res):Yw l res:=(Z18).1 _ _ hh
mutual
def Z9 (l:List B0):Option Bool:=
 Jb l 0
 partial_fixpoint
def Jb (l:List B0)(i:Int):Option Bool:=
 if (decide (i < ((l).length:Int)))=true then
  idx l i>>=fun x1=>
  Ek x1.Kind>>=fun x2=>
  (if (!(!x2))=true then F9 x1.TypeV else some default)>>=fun x3=>
  if (bif (!x2) then true else (!x3))=true then
   some false
  else
   Ze x1.Kind>>=fun x4=>
   (if x4=true then A5 x1.Value else some default)>>=fun x5=>
   (if (!(bif x4 then (!x5) else false))=true then Ze x1.Kind else some default)>>=fun x6=>
   (if ((!(bif x4 then (!x5) else false))&&(!x6))=true then Fb x1.Value else some default)>>=fun x7=>
   if (bif (bif (bif x4 then (!x5) else false) then true else (bif (!x6) then (!x7) else false)) then true else (bif (x1.Kind != 4) then (x1.Init != 0) else false))=true then
    some false
   else
    if (bif (x1.Kind != 6) then (bif (bif (((x1.Params).length:Int) != 0) then true else (((x1.Vars).length:Int) != 0)) then true else (((x1.Body).length:Int) != 0)) else false)=true then
     some false
    else
     J6 l x1 i 0
 else
  some true
 partial_fixpoint
def J6 (l:List B0)(x1:B0)(i1:Int)(k:Int):Option Bool:=
 if (decide (k < ((x1.Params).length:Int)))=true then
  idx x1.Params k>>=fun x8=>
  (if (!(x8.Kind != 4))=true then idx x1.Params k else some default)>>=fun x9=>
  if (bif (x8.Kind != 4) then true else (x9.Init != 0))=true then
   some false
  else
   J6 l x1 i1 (IntKind.i64.wrap (k+1))
 else
  K6 l x1 i1 0
 partial_fixpoint
def K6 (l:List B0)(x1:B0)(i2:Int)(k1:Int):Option Bool:=
 if (decide (k1 < ((x1.Vars).length:Int)))=true then
  idx x1.Vars k1>>=fun x10=>
  if (x10.Kind != 4)=true then
   some false
  else
   K6 l x1 i2 (IntKind.i64.wrap (k1+1))
 else
  Z9 x1.Params>>=fun x11=>
  (if (!(!x11))=true then Z9 x1.Vars else some default)>>=fun x12=>
  (if (!(bif (!x11) then true else (!x12)))=true then U7 x1.Body else some default)>>=fun x13=>
  if (bif (bif (!x11) then true else (!x12)) then true else (!x13))=true then
   some false
  else
   Jb l (IntKind.i64.wrap (i2+1))
 partial_fixpoint
end
abbrev Zw (l:List B0)(res:Bool):Prop:=L0 C 66 [.d (.sl (B0.rows l))] [] (Ret [] (.d (.bool res)))
abbrev D16 (l:List B0)(i:Int)(res:Bool):Prop:=LM C 132 0 Tryz.f66 [1,0,1,4] [(0,.d (.sl (B0.rows l))),(3,.d (.int .i64 i))] [] (Ret [] (.d (.bool res)))
abbrev E16 (l:List B0)(x1:B0)(i1:Int)(k:Int)(res:Bool):Prop:=LM C 132 0 Tryz.f66 [1,0,1,4,5,1,0,4,1,1,1,1,0,1,4] [(0,.d (.sl (B0.rows l))),(3,.d (.int .i64 i1)),(4,.ref 0 0),(5,.d (.int .i64 k))] [.row (B0.cells x1) 59] (Ret [] (.d (.bool res)))
abbrev F16 (l:List B0)(x1:B0)(i2:Int)(k1:Int)(res:Bool):Prop:=LM C 132 0 Tryz.f66 [1,0,1,4,5,1,0,4,1,1,1,1,1,0,1,4] [(0,.d (.sl (B0.rows l))),(3,.d (.int .i64 i2)),(4,.ref 0 0),(6,.d (.int .i64 k1))] [.row (B0.cells x1) 59] (Ret [] (.d (.bool res)))
theorem A19:(∀ l res,Z9 l=some res→Zw l res)∧(∀ l i res,Jb l i=some res→D16 l i res)∧(∀ l x1 i1 k res,J6 l x1 i1 k=some res→E16 l x1 i1 k res)∧(∀ l x1 i2 k1 res,K6 l x1 i2 k1=some res→F16 l x1 i2 k1 res):=by
 refine Z9.mutual_partial_correctness _ _ _ _ ?_ ?_ ?_ ?_
 ·intro g1 ih1 l res hh
  exact L0.intro hC Tryz.func66 rfl rfl rfl (t' rfl (S' (t' rfl (bk' (fw' (ih1 _ _ _ hh) rfl rfl rfl)))))
 ·intro g2 ih2 l i res hh
  refine W0.unroll (S' (p' 2 rfl (qe' rfl trivial (B0.lenA _) (e' rfl (ci' rfl hh (fun hh=>?_) (fun hh=>?_))))))
  ·obtain ⟨x1,hx1,hh⟩:=bs' hh
   obtain ⟨x2,hx2,hh⟩:=bs' hh
   obtain ⟨x3,hx3,hh⟩:=bs' hh
   refine sk' (S' (bk' (p' 2 rfl (i' rfl (U0 hx1) (B0.idx hx1) rfl (q' rfl (E0.nf hC rfl (E0.s hC rfl (n' (S' (sg' 10 rfl (G' 2 rfl (AG.c rfl rfl (fun _=>trivial) (fun _=>Mw hx2) (G' 3 rfl ?_)))))))))))))
   refine a1' rfl (AG.c rfl rfl (fun hg=>⟨hg,trivial⟩) (fun hw=>Ww (I1 hw hx3)) (a1' rfl (po' rfl (an' (n' (ci' rfl hh (fun hh=>?_) (fun hh=>?_)))))))
   ·cases hh
    exact t' rfl (re' (rt' rfl rfl rfl))
   obtain ⟨x4,hx4,hh⟩:=bs' hh
   obtain ⟨x5,hx5,hh⟩:=bs' hh
   obtain ⟨x6,hx6,hh⟩:=bs' hh
   obtain ⟨x7,hx7,hh⟩:=bs' hh
   refine sk' (S' (sg' 31 rfl (G' 2 rfl (AG.c rfl rfl (fun _=>trivial) (fun _=>Qn hx4) (G' 2 rfl (a1' rfl (AG.c rfl rfl (fun hg=>⟨hg,trivial⟩) (fun hw=>Nj (I1 hw hx5)) (a1' rfl (pa' rfl (G' 2 rfl (a1' rfl (AG.c rfl rfl (fun hg=>⟨hg,trivial⟩) (fun hw=>Qn (I1 hw hx6)) (a1' rfl ?_)))))))))))))
   refine a1' rfl (a0' rfl (a1' rfl (AG.c rfl rfl (fun hg=>⟨hg,trivial⟩) (fun hw=>Mj (I1 hw hx7)) (a1' rfl (pA' rfl (po' rfl (G' 2 rfl (a1' rfl (a1' rfl (a1' rfl (a0' rfl (a1' rfl (a1' rfl ?_)))))))))))))
   refine pA' rfl (po' rfl (an' (n' (ci' rfl hh (fun hh=>?_) (fun hh=>?_)))))
   ·cases hh
    exact t' rfl (re' (rt' rfl rfl rfl))
   refine sk' (S' (sg' 21 rfl (G' 5 rfl (a1' rfl (AG.qe hC rfl (fun hg=>⟨⟨hg,trivial⟩,trivial⟩) (B0.lenA _) (a1' rfl (a1' rfl (a0' rfl (a1' rfl (AG.qe hC rfl (fun hg=>⟨⟨hg,trivial⟩,trivial⟩) (B0.lenA _) (a1' rfl (pO' rfl (a1' rfl ?_)))))))))))))
   refine a0' rfl (a1' rfl (AG.qe hC rfl (fun hg=>⟨⟨hg,trivial⟩,trivial⟩) (C0.lenA _) (a1' rfl (pO' rfl (pa' rfl (an' (n' (ci' rfl hh (fun hh=>?_) (fun hh=>?_)))))))))
   ·cases hh
    exact t' rfl (re' (rt' rfl rfl rfl))
   exact sk' (S' (t' rfl (bk' (fw' (ih2 _ _ _ _ _ hh) rfl rfl rfl))))
  cases hh
  exact ex' (t' rfl (re' (rt' rfl rfl rfl)))
 ·intro g2 g3 ih2 ih3 l x1 i1 k res hh
  refine W0.unroll (S' (p' 3 rfl (qe' rfl trivial (B0.lenA _) (e' rfl (ci' rfl hh (fun hh=>?_) (fun hh=>?_))))))
  ·obtain ⟨x8,hx8,hh⟩:=bs' hh
   obtain ⟨x9,hx9,hh⟩:=bs' hh
   refine sk' (S' (bk' (sg' 16 rfl (G' 3 rfl (AG.i hC rfl rfl (fun _=>trivial) (fun hw=>⟨U0 hx8,B0.idx hx8,rfl⟩) (G' 5 rfl (a1' rfl (a0' rfl (AG.i hC rfl rfl (fun hg=>⟨hg,hg,trivial⟩) (fun hw=>⟨U0 (I1 hw hx9),B0.idx (I1 hw hx9),rfl⟩) (a1' rfl (a1' rfl (a1' rfl (po' rfl ?_)))))))))))))
   refine an' (n' (ci' rfl hh (fun hh=>?_) (fun hh=>?_)))
   ·cases hh
    exact t' rfl (re' (rt' rfl rfl rfl))
   exact sk' (T' rfl (lw' (ih2 _ _ _ _ _ hh) rfl rfl rfl))
  exact ex' (S' (t' rfl (bk' (fw' (ih3 _ _ _ _ _ hh) rfl rfl rfl))))
 ·intro g0 g1 g3 ih0 ih1 ih3 l x1 i2 k1 res hh
  refine W0.unroll (S' (p' 3 rfl (qe' rfl trivial (B0.lenA _) (e' rfl (ci' rfl hh (fun hh=>?_) (fun hh=>?_))))))
  ·obtain ⟨x10,hx10,hh⟩:=bs' hh
   refine sk' (S' (bk' (p' 3 rfl (i' rfl (U0 hx10) (B0.idx hx10) rfl (e' rfl (ci' rfl hh (fun hh=>?_) (fun hh=>?_)))))))
   ·cases hh
    exact t' rfl (re' (rt' rfl rfl rfl))
   exact sk' (T' rfl (lw' (ih3 _ _ _ _ _ hh) rfl rfl rfl))
  obtain ⟨x11,hx11,hh⟩:=bs' hh
  obtain ⟨x12,hx12,hh⟩:=bs' hh
  obtain ⟨x13,hx13,hh⟩:=bs' hh
  refine ex' (sg' 16 rfl (G' 2 rfl (AG.c rfl rfl (fun _=>trivial) (fun _=>ih0 _ _ hx11) (G' 3 rfl (a1' rfl (AG.c rfl rfl (fun hg=>⟨hg,trivial⟩) (fun hw=>ih0 _ _ (I1 hw hx12)) (a1' rfl (po' rfl (G' 2 rfl (a1' rfl (AG.c rfl rfl (fun hg=>⟨hg,trivial⟩) (fun hw=>Lv (I1 hw hx13)) (a1' rfl (po' rfl ?_)))))))))))))
  refine an' (n' (ci' rfl hh (fun hh=>?_) (fun hh=>?_)))
  ·cases hh
   exact t' rfl (re' (rt' rfl rfl rfl))
  exact sk' (T' rfl (lw' (ih1 _ _ _ hh) rfl rfl rfl))
theorem A1b {l res}(hh:Z9 l=some res):Zw l res:=(A19).1 _ _ hh
def Hk (c:Int):Option Bool:=
 some (bif (decide (c≥97)) then (decide (c≤122)) else false)
theorem Bs {c res}(hh:Hk c=some res):L0 C 170 [.d (.int .u8 c)] [] (Ret [] (.d (.bool res))):=by
 unfold Hk at hh
 cases hh
 exact L0.intro hC Tryz.func170 rfl rfl rfl (t' rfl (sg' 7 rfl (G' 4 rfl (a1' rfl (pa' rfl (a0' rfl (an' (n' (re' (rt' rfl rfl rfl))))))))))
def K7 (s:Str)(i1:Int):Option Bool:=
 if (decide ((IntKind.i64.wrap ((IntKind.i64.wrap (i1+((s).length:Int)))+2))≤162))=true then
  slc [32,116,121,112,101,32,115,101,99,114,101,116,32,112,117,98,108,105,99,32,114,97,110,100,111,109,32,118,97,114,32,104,97,116,99,104,32,102,117,110,99,32,114,101,116,117,114,110,32,98,101,103,105,110,32,101,110,100,32,98,111,111,108,32,105,110,116,32,97,114,114,97,121,32,111,102,32,114,101,99,111,114,100,32,116,114,117,101,32,102,97,108,115,101,32,99,97,108,108,32,114,101,108,101,97,115,101,32,111,117,116,112,117,116,32,119,97,105,116,32,105,102,32,101,108,115,101,32,119,104,105,108,101,32,108,105,109,105,116,32,102,111,114,32,116,111,32,115,101,116,116,108,101,32,109,105,110,32,109,97,120,32] i1 (IntKind.i64.wrap ((IntKind.i64.wrap (i1+((s).length:Int)))+2))>>=fun x3=>
  if (decide (1+s.length≤maxLen))=true then
   if (decide (([32]++s).length+1≤maxLen))=true then
    if (x3 == (([32]++s)++[32]))=true then
     some true
    else
     K7 s (IntKind.i64.wrap (i1+1))
   else none
  else none
 else
  some false
 partial_fixpoint
abbrev Jt (s:Str)(i1:Int)(res:Bool):Prop:=LM C 38 0 Tryz.f171 [1,1,1,0,1,4] [(0,.d (.str s)),(4,.d (.int .i64 i1))] [] (Ret [] (.d (.bool res)))
theorem Z13 (s:Str):(∀ i1 res,K7 s i1=some res→Jt s i1 res):=by
 refine K7.partial_correctness s _ ?_
 ·intro g0 ih0 i1 res hh
  refine W0.unroll (S' (t' rfl (ci' rfl hh (fun hh=>?_) (fun hh=>?_))))
  ·obtain ⟨x3,hx3,hh⟩:=bs' hh
   obtain ⟨c13,hh⟩:=G1 hh
   obtain ⟨c14,hh⟩:=G1 hh
   refine sk' (S' (bk' (p' 6 rfl (E0.lx hC rfl hx3 (q' rfl (qc' rfl c13 (qc' rfl c14 (e' rfl (ci' rfl hh (fun hh=>?_) (fun hh=>?_))))))))))
   ·cases hh
    exact t' rfl (re' (rt' rfl rfl rfl))
   exact sk' (T' rfl (lw' (ih0 _ _ hh) rfl rfl rfl))
  cases hh
  exact ex' (t' rfl (re' (rt' rfl rfl rfl)))
theorem G16 {s i1 res}(hh:K7 s i1=some res):Jt s i1 res:=(Z13 s) _ _ hh
def L7 (s:Str)(i:Int):Option Bool:=
 if (decide (i < ((s).length:Int)))=true then
  idx s i>>=fun x1=>
  Hk (x1.toNat:Int)>>=fun x2=>
  if (!x2)=true then
   some false
  else
   L7 s (IntKind.i64.wrap (i+1))
 else
  K7 s 0
 partial_fixpoint
abbrev Kt (s:Str)(i:Int)(res:Bool):Prop:=LM C 38 0 Tryz.f171 [1,1,0,1,4] [(0,.d (.str s)),(3,.d (.int .i64 i))] [] (Ret [] (.d (.bool res)))
theorem A14 (s:Str):(∀ i res,L7 s i=some res→Kt s i res):=by
 refine L7.partial_correctness s _ ?_
 ·intro g0 ih0 i res hh
  refine W0.unroll (S' (t' rfl (ci' rfl hh (fun hh=>?_) (fun hh=>?_))))
  ·obtain ⟨x1,hx1,hh⟩:=bs' hh
   obtain ⟨x2,hx2,hh⟩:=bs' hh
   refine sk' (S' (bk' (p' 2 rfl (x' rfl (U0 hx1) (Ci hx1) (c' (Bs hx2) rfl rfl (e' rfl (ci' rfl hh (fun hh=>?_) (fun hh=>?_))))))))
   ·cases hh
    exact t' rfl (re' (rt' rfl rfl rfl))
   exact sk' (T' rfl (lw' (ih0 _ _ hh) rfl rfl rfl))
  exact ex' (S' (t' rfl (bk' (fw' (G16 hh) rfl rfl rfl))))
theorem H16 {s i res}(hh:L7 s i=some res):Kt s i res:=(A14 s) _ _ hh
def Ik (s:Str):Option Bool:=
 if (((s).length:Int) == 0)=true then
  some false
 else
  L7 s 0
theorem Z1d {s res}(hh:Ik s=some res):L0 C 171 [.d (.str s)] [] (Ret [] (.d (.bool res))):=by
 unfold Ik at hh
 refine L0.intro hC Tryz.func171 rfl rfl rfl (t' rfl (S' (t' rfl (ci' rfl hh (fun hh=>?_) (fun hh=>?_)))))
 ·cases hh
  exact t' rfl (re' (rt' rfl rfl rfl))
 exact sk' (S' (t' rfl (bk' (fw' (H16 hh) rfl rfl rfl))))
def Qu (c:Int):Option Bool:=
 some (bif (decide (c≥48)) then (decide (c≤57)) else false)
theorem K1l {c res}(hh:Qu c=some res):L0 C 206 [.d (.int .u8 c)] [] (Ret [] (.d (.bool res))):=by
 unfold Qu at hh
 cases hh
 exact L0.intro hC Tryz.func206 rfl rfl rfl (t' rfl (sg' 7 rfl (G' 4 rfl (a1' rfl (pa' rfl (a0' rfl (an' (n' (re' (rt' rfl rfl rfl))))))))))
def Pe (s:Str)(atV1:Int):Option Int:=
 (if (decide (atV1 < ((s).length:Int)))=true then idx s atV1 else some default)>>=fun x1=>
 (if (decide (atV1 < ((s).length:Int)))=true then Hk (x1.toNat:Int) else some default)>>=fun x2=>
 (if ((decide (atV1 < ((s).length:Int)))&&(!x2))=true then idx s atV1 else some default)>>=fun x3=>
 (if ((decide (atV1 < ((s).length:Int)))&&(!x2))=true then Qu (x3.toNat:Int) else some default)>>=fun x4=>
 if (bif (decide (atV1 < ((s).length:Int))) then (bif x2 then true else x4) else false)=true then
  Pe s (IntKind.i64.wrap (atV1+1))
 else
  some atV1
 partial_fixpoint
abbrev B14 (s:Str)(atV1:Int)(res:Int):Prop:=LM C 24 0 Tryz.f172 [1,0,4] [(0,.d (.str s)),(1,.d (.int .i64 atV1))] [] (Ret [] (.d (.int .i64 res)))
theorem D1g (s:Str):(∀ atV1 res,Pe s atV1=some res→B14 s atV1 res):=by
 refine Pe.partial_correctness s _ ?_
 ·intro g0 ih0 atV1 res hh
  obtain ⟨x1,hx1,hh⟩:=bs' hh
  obtain ⟨x2,hx2,hh⟩:=bs' hh
  obtain ⟨x3,hx3,hh⟩:=bs' hh
  obtain ⟨x4,hx4,hh⟩:=bs' hh
  refine W0.unroll (S' (sg' 16 rfl (G' 7 rfl (AG.x hC rfl rfl (fun hg=>⟨hg,hg,trivial⟩) (fun hw=>⟨U0 (I1 hw hx1),Ci (I1 hw hx1)⟩) (AG.c rfl rfl (fun hg=>⟨hg,trivial⟩) (fun hw=>Bs (I1 hw hx2)) (a1' rfl (G' 2 rfl (AG.x hC rfl rfl (fun hg=>⟨hg,hg,trivial⟩) (fun hw=>⟨U0 (I1 hw hx3),Ci (I1 hw hx3)⟩) ?_))))))))
  refine AG.c rfl rfl (fun hg=>⟨hg,trivial⟩) (fun hw=>K1l (I1 hw hx4)) (pO' rfl (pa' rfl (an' (n' (ci' rfl hh (fun hh=>?_) (fun hh=>?_))))))
  ·exact sk' (bk' (T' rfl (lw' (ih0 _ _ hh) rfl rfl rfl)))
  cases hh
  exact ex' (t' rfl (re' (rt' rfl rfl rfl)))
theorem G1j {s atV1 res}(hh:Pe s atV1=some res):B14 s atV1 res:=(D1g s) _ _ hh
def Mv (s:Str)(atV:Int):Option Int:=
 Pe s atV
theorem C1q {s atV res}(hh:Mv s atV=some res):L0 C 172 [.d (.str s),.d (.int .i64 atV)] [] (Ret [] (.d (.int .i64 res))):=by
 unfold Mv at hh
 exact L0.intro hC Tryz.func172 rfl rfl rfl (t' rfl (S' (bk' (fw' (G1j hh) rfl rfl rfl))))
def Cs (s:Str):Option Bool:=
 (if (!(bif (decide (((s).length:Int) < 1)) then true else (decide (((s).length:Int) > 12))))=true then idx s 0 else some default)>>=fun x1=>
 (if (!(bif (decide (((s).length:Int) < 1)) then true else (decide (((s).length:Int) > 12))))=true then Hk (x1.toNat:Int) else some default)>>=fun x2=>
 (if (!(bif (bif (decide (((s).length:Int) < 1)) then true else (decide (((s).length:Int) > 12))) then true else (!x2)))=true then Ik s else some default)>>=fun x3=>
 if (bif (bif (bif (decide (((s).length:Int) < 1)) then true else (decide (((s).length:Int) > 12))) then true else (!x2)) then true else x3)=true then
  some false
 else
  Mv s 0>>=fun x4=>
  some (x4 == ((s).length:Int))
theorem H1j {s res}(hh:Cs s=some res):L0 C 102 [.d (.str s)] [] (Ret [] (.d (.bool res))):=by
 unfold Cs at hh
 obtain ⟨x1,hx1,hh⟩:=bs' hh
 obtain ⟨x2,hx2,hh⟩:=bs' hh
 obtain ⟨x3,hx3,hh⟩:=bs' hh
 refine L0.intro hC Tryz.func102 rfl rfl rfl (t' rfl (S' (sg' 18 rfl (G' 5 rfl (a1' rfl (a1' rfl (po' rfl (G' 2 rfl (AG.x hC rfl rfl (fun hg=>⟨hg,trivial⟩) (fun hw=>⟨U0 (I1 hw hx1),Ci (I1 hw hx1)⟩) (AG.c rfl rfl (fun hg=>⟨hg,trivial⟩) (fun hw=>Bs (I1 hw hx2)) (a1' rfl (po' rfl (G' 2 rfl ?_)))))))))))))
 refine AG.c rfl rfl (fun hg=>⟨hg,trivial⟩) (fun hw=>Z1d (I1 hw hx3)) (po' rfl (an' (n' (ci' rfl hh (fun hh=>?_) (fun hh=>?_)))))
 ·cases hh
  exact t' rfl (re' (rt' rfl rfl rfl))
 obtain ⟨x4,hx4,hh⟩:=bs' hh
 cases hh
 exact sk' (p' 1 rfl (c' (C1q hx4) rfl rfl (e' rfl (re' (rt' rfl rfl rfl)))))
def Ka (s:Str):Option Bool:=
 Cs s>>=fun x1=>
 some x1
theorem Cf {s res}(hh:Ka s=some res):L0 C 48 [.d (.str s)] [] (Ret [] (.d (.bool res))):=by
 unfold Ka at hh
 obtain ⟨x1,hx1,hh⟩:=bs' hh
 cases hh
 exact L0.intro hC Tryz.func48 rfl rfl rfl (t' rfl (p' 1 rfl (c' (H1j hx1) rfl rfl (e' rfl (re' (rt' rfl rfl rfl))))))
mutual
def V7 (t:A0):Option Bool:=
 (if (t.Kind == 4)=true then Ka t.Name else some default)>>=fun x1=>
 if (bif (t.Kind == 4) then (!x1) else false)=true then
  some false
 else
  Kb t 0
 partial_fixpoint
def Kb (t:A0)(i:Int):Option Bool:=
 if (decide (i < ((t.Names).length:Int)))=true then
  idx t.Names i>>=fun x2=>
  Ka x2>>=fun x3=>
  if (!x3)=true then
   some false
  else
   Kb t (IntKind.i64.wrap (i+1))
 else
  R8 t 0
 partial_fixpoint
def R8 (t:A0)(i1:Int):Option Bool:=
 if (decide (i1 < ((t.Of).length:Int)))=true then
  idx t.Of i1>>=fun x4=>
  V7 x4>>=fun x5=>
  if (!x5)=true then
   some false
  else
   R8 t (IntKind.i64.wrap (i1+1))
 else
  some true
 partial_fixpoint
end
abbrev Ax (t:A0)(res:Bool):Prop:=L0 C 133 [.agg (A0.cells t)] [] (Ret [] (.d (.bool res)))
abbrev I16 (t:A0)(i:Int)(res:Bool):Prop:=LM C 42 0 Tryz.f133 [1,1,0,1,4] [(1,.ref 0 0),(3,.d (.int .i64 i))] [.row (A0.cells t) 40] (Ret [] (.d (.bool res)))
abbrev J16 (t:A0)(i1:Int)(res:Bool):Prop:=LM C 42 0 Tryz.f133 [1,1,1,0,1,4] [(1,.ref 0 0),(4,.d (.int .i64 i1))] [.row (A0.cells t) 40] (Ret [] (.d (.bool res)))
theorem B19:(∀ t res,V7 t=some res→Ax t res)∧(∀ t i res,Kb t i=some res→I16 t i res)∧(∀ t i1 res,R8 t i1=some res→J16 t i1 res):=by
 refine V7.mutual_partial_correctness _ _ _ ?_ ?_ ?_
 ·intro g1 ih1 t res hh
  obtain ⟨x1,hx1,hh⟩:=bs' hh
  refine L0.intro hC Tryz.func133 rfl rfl rfl (s' rfl rfl (E0.n hC rfl (e' rfl (S' (sg' 9 rfl (G' 5 rfl (a1' rfl (AG.c rfl rfl (fun hg=>⟨hg,trivial⟩) (fun hw=>Cf (I1 hw hx1)) (a1' rfl (pa' rfl (an' (n' (ci' rfl hh (fun hh=>?_) (fun hh=>?_))))))))))))))
  ·cases hh
   exact t' rfl (re' (rt' rfl rfl rfl))
  exact sk' (S' (t' rfl (bk' (fw' (ih1 _ _ _ hh) rfl rfl rfl))))
 ·intro g1 g2 ih1 ih2 t i res hh
  refine W0.unroll (S' (p' 3 rfl (qe' rfl trivial (estr.lenA _) (e' rfl (ci' rfl hh (fun hh=>?_) (fun hh=>?_))))))
  ·obtain ⟨x2,hx2,hh⟩:=bs' hh
   obtain ⟨x3,hx3,hh⟩:=bs' hh
   refine sk' (S' (bk' (p' 3 rfl (i' rfl (U0 hx2) (estr.idx hx2) rfl (q' rfl (c' (Cf hx3) rfl rfl (e' rfl (ci' rfl hh (fun hh=>?_) (fun hh=>?_)))))))))
   ·cases hh
    exact t' rfl (re' (rt' rfl rfl rfl))
   exact sk' (T' rfl (lw' (ih1 _ _ _ hh) rfl rfl rfl))
  exact ex' (S' (t' rfl (bk' (fw' (ih2 _ _ _ hh) rfl rfl rfl))))
 ·intro g0 g2 ih0 ih2 t i1 res hh
  refine W0.unroll (S' (p' 3 rfl (qe' rfl trivial (A0.lenA _) (e' rfl (ci' rfl hh (fun hh=>?_) (fun hh=>?_))))))
  ·obtain ⟨x4,hx4,hh⟩:=bs' hh
   obtain ⟨x5,hx5,hh⟩:=bs' hh
   refine sk' (S' (bk' (p' 3 rfl (i' rfl (U0 hx4) (A0.idx hx4) rfl (q' rfl (c' (ih0 _ _ hx5) rfl rfl (e' rfl (ci' rfl hh (fun hh=>?_) (fun hh=>?_)))))))))
   ·cases hh
    exact t' rfl (re' (rt' rfl rfl rfl))
   exact sk' (T' rfl (lw' (ih2 _ _ _ hh) rfl rfl rfl))
  cases hh
  exact ex' (t' rfl (re' (rt' rfl rfl rfl)))
theorem Nv {t res}(hh:V7 t=some res):Ax t res:=(B19).1 _ _ hh
mutual
def L4 (e:D0):Option Bool:=
 (if (bif (e.Op == 3) then true else (e.Op == 4))=true then Ka e.Name else some default)>>=fun x1=>
 if (bif (bif (e.Op == 3) then true else (e.Op == 4)) then (!x1) else false)=true then
  some false
 else
  Lb e 0
 partial_fixpoint
def Lb (e:D0)(i:Int):Option Bool:=
 if (decide (i < ((e.Kids).length:Int)))=true then
  idx e.Kids i>>=fun x2=>
  L4 x2>>=fun x3=>
  if (!x3)=true then
   some false
  else
   Lb e (IntKind.i64.wrap (i+1))
 else
  some true
 partial_fixpoint
end
abbrev Bx (e:D0)(res:Bool):Prop:=L0 C 92 [.agg (D0.cells e)] [] (Ret [] (.d (.bool res)))
abbrev K16 (e:D0)(i:Int)(res:Bool):Prop:=LM C 32 0 Tryz.f92 [1,1,0,1,4] [(1,.ref 0 0),(3,.d (.int .i64 i))] [.row (D0.cells e) 34] (Ret [] (.d (.bool res)))
theorem C19:(∀ e res,L4 e=some res→Bx e res)∧(∀ e i res,Lb e i=some res→K16 e i res):=by
 refine L4.mutual_partial_correctness _ _ ?_ ?_
 ·intro g1 ih1 e res hh
  obtain ⟨x1,hx1,hh⟩:=bs' hh
  refine L0.intro hC Tryz.func92 rfl rfl rfl (s' rfl rfl (E0.n hC rfl (e' rfl (S' (sg' 14 rfl (G' 5 rfl (a1' rfl (a1' rfl (po' rfl (G' 2 rfl (a1' rfl (AG.c rfl rfl (fun hg=>⟨hg,trivial⟩) (fun hw=>Cf (I1 hw hx1)) (a1' rfl ?_)))))))))))))
  refine pa' rfl (an' (n' (ci' rfl hh (fun hh=>?_) (fun hh=>?_))))
  ·cases hh
   exact t' rfl (re' (rt' rfl rfl rfl))
  exact sk' (S' (t' rfl (bk' (fw' (ih1 _ _ _ hh) rfl rfl rfl))))
 ·intro g0 g1 ih0 ih1 e i res hh
  refine W0.unroll (S' (p' 3 rfl (qe' rfl trivial (D0.lenA _) (e' rfl (ci' rfl hh (fun hh=>?_) (fun hh=>?_))))))
  ·obtain ⟨x2,hx2,hh⟩:=bs' hh
   obtain ⟨x3,hx3,hh⟩:=bs' hh
   refine sk' (S' (bk' (p' 3 rfl (i' rfl (U0 hx2) (D0.idx hx2) rfl (q' rfl (c' (ih0 _ _ hx3) rfl rfl (e' rfl (ci' rfl hh (fun hh=>?_) (fun hh=>?_)))))))))
   ·cases hh
    exact t' rfl (re' (rt' rfl rfl rfl))
   exact sk' (T' rfl (lw' (ih1 _ _ _ hh) rfl rfl rfl))
  cases hh
  exact ex' (t' rfl (re' (rt' rfl rfl rfl)))
theorem Oi {e res}(hh:L4 e=some res):Bx e res:=(C19).1 _ _ hh
mutual
def U6 (l:List C0):Option Bool:=
 Da l 0
 partial_fixpoint
def Da (l:List C0)(i:Int):Option Bool:=
 if (decide (i < ((l).length:Int)))=true then
  idx l i>>=fun x1=>
  Gk x1.Verb>>=fun x2=>
  (if x2=true then Ka x1.Name else some default)>>=fun x3=>
  (if (!(bif x2 then (!x3) else false))=true then L4 x1.Place else some default)>>=fun x4=>
  (if (!(bif (bif x2 then (!x3) else false) then true else (!x4)))=true then L4 x1.Value else some default)>>=fun x5=>
  (if (!(bif (bif (bif x2 then (!x3) else false) then true else (!x4)) then true else (!x5)))=true then U6 x1.Then else some default)>>=fun x6=>
  (if (!(bif (bif (bif (bif x2 then (!x3) else false) then true else (!x4)) then true else (!x5)) then true else (!x6)))=true then U6 x1.Else else some default)>>=fun x7=>
  if (bif (bif (bif (bif (bif x2 then (!x3) else false) then true else (!x4)) then true else (!x5)) then true else (!x6)) then true else (!x7))=true then
   some false
  else
   Nd l x1 i 0
 else
  some true
 partial_fixpoint
def Nd (l:List C0)(x1:C0)(i1:Int)(k:Int):Option Bool:=
 if (decide (k < ((x1.Args).length:Int)))=true then
  idx x1.Args k>>=fun x8=>
  L4 x8>>=fun x9=>
  if (!x9)=true then
   some false
  else
   Nd l x1 i1 (IntKind.i64.wrap (k+1))
 else
  Da l (IntKind.i64.wrap (i1+1))
 partial_fixpoint
end
abbrev Ov (l:List C0)(res:Bool):Prop:=L0 C 69 [.d (.sl (C0.rows l))] [] (Ret [] (.d (.bool res)))
abbrev C14 (l:List C0)(i:Int)(res:Bool):Prop:=LM C 63 0 Tryz.f69 [1,0,1,4] [(0,.d (.sl (C0.rows l))),(3,.d (.int .i64 i))] [] (Ret [] (.d (.bool res)))
abbrev D14 (l:List C0)(x1:C0)(i1:Int)(k:Int)(res:Bool):Prop:=LM C 63 0 Tryz.f69 [1,0,1,4,5,1,0,4,1,1,1,4] [(0,.d (.sl (C0.rows l))),(3,.d (.int .i64 i1)),(4,.ref 0 0),(5,.d (.int .i64 k))] [.row (C0.cells x1) 53] (Ret [] (.d (.bool res)))
theorem L16:(∀ l res,U6 l=some res→Ov l res)∧(∀ l i res,Da l i=some res→C14 l i res)∧(∀ l x1 i1 k res,Nd l x1 i1 k=some res→D14 l x1 i1 k res):=by
 refine U6.mutual_partial_correctness _ _ _ ?_ ?_ ?_
 ·intro g1 ih1 l res hh
  exact L0.intro hC Tryz.func69 rfl rfl rfl (t' rfl (S' (t' rfl (bk' (fw' (ih1 _ _ _ hh) rfl rfl rfl)))))
 ·intro g0 g2 ih0 ih2 l i res hh
  refine W0.unroll (S' (p' 2 rfl (qe' rfl trivial (C0.lenA _) (e' rfl (ci' rfl hh (fun hh=>?_) (fun hh=>?_))))))
  ·obtain ⟨x1,hx1,hh⟩:=bs' hh
   obtain ⟨x2,hx2,hh⟩:=bs' hh
   obtain ⟨x3,hx3,hh⟩:=bs' hh
   obtain ⟨x4,hx4,hh⟩:=bs' hh
   obtain ⟨x5,hx5,hh⟩:=bs' hh
   obtain ⟨x6,hx6,hh⟩:=bs' hh
   obtain ⟨x7,hx7,hh⟩:=bs' hh
   refine sk' (S' (bk' (p' 2 rfl (i' rfl (U0 hx1) (C0.idx hx1) rfl (q' rfl (E0.nf hC rfl (E0.s hC rfl (n' (S' (sg' 33 rfl (G' 2 rfl (AG.c rfl rfl (fun _=>trivial) (fun _=>Xw hx2) (G' 2 rfl ?_)))))))))))))
   refine a1' rfl (AG.c rfl rfl (fun hg=>⟨hg,trivial⟩) (fun hw=>Cf (I1 hw hx3)) (a1' rfl (pa' rfl (G' 2 rfl (a1' rfl (AG.c rfl rfl (fun hg=>⟨hg,trivial⟩) (fun hw=>Oi (I1 hw hx4)) (a1' rfl (po' rfl (G' 2 rfl (a1' rfl (AG.c rfl rfl (fun hg=>⟨hg,trivial⟩) (fun hw=>Oi (I1 hw hx5)) (a1' rfl (po' rfl ?_)))))))))))))
   refine G' 2 rfl (a1' rfl (AG.c rfl rfl (fun hg=>⟨hg,trivial⟩) (fun hw=>ih0 _ _ (I1 hw hx6)) (a1' rfl (po' rfl (G' 2 rfl (a1' rfl (AG.c rfl rfl (fun hg=>⟨hg,trivial⟩) (fun hw=>ih0 _ _ (I1 hw hx7)) (a1' rfl (po' rfl (an' (n' (ci' rfl hh (fun hh=>?_) (fun hh=>?_)))))))))))))
   ·cases hh
    exact t' rfl (re' (rt' rfl rfl rfl))
   exact sk' (t' rfl (bk' (fw' (ih2 _ _ _ _ _ hh) rfl rfl rfl)))
  cases hh
  exact ex' (t' rfl (re' (rt' rfl rfl rfl)))
 ·intro g1 g2 ih1 ih2 l x1 i1 k res hh
  refine W0.unroll (S' (p' 3 rfl (qe' rfl trivial (D0.lenA _) (e' rfl (ci' rfl hh (fun hh=>?_) (fun hh=>?_))))))
  ·obtain ⟨x8,hx8,hh⟩:=bs' hh
   obtain ⟨x9,hx9,hh⟩:=bs' hh
   refine sk' (S' (bk' (p' 3 rfl (i' rfl (U0 hx8) (D0.idx hx8) rfl (q' rfl (c' (Oi hx9) rfl rfl (e' rfl (ci' rfl hh (fun hh=>?_) (fun hh=>?_)))))))))
   ·cases hh
    exact t' rfl (re' (rt' rfl rfl rfl))
   exact sk' (T' rfl (lw' (ih2 _ _ _ _ _ hh) rfl rfl rfl))
  exact ex' (T' rfl (lw' (ih1 _ _ _ hh) rfl rfl rfl))
theorem Lt {l res}(hh:U6 l=some res):Ov l res:=(L16).1 _ _ hh
mutual
def S8 (l:List B0):Option Bool:=
 Ea l 0
 partial_fixpoint
def Ea (l:List B0)(i:Int):Option Bool:=
 if (decide (i < ((l).length:Int)))=true then
  idx l i>>=fun x1=>
  Ka x1.Name>>=fun x2=>
  (if (!(!x2))=true then V7 x1.TypeV else some default)>>=fun x3=>
  (if (!(bif (!x2) then true else (!x3)))=true then L4 x1.Value else some default)>>=fun x4=>
  (if (!(bif (bif (!x2) then true else (!x3)) then true else (!x4)))=true then S8 x1.Params else some default)>>=fun x5=>
  (if (!(bif (bif (bif (!x2) then true else (!x3)) then true else (!x4)) then true else (!x5)))=true then S8 x1.Vars else some default)>>=fun x6=>
  (if (!(bif (bif (bif (bif (!x2) then true else (!x3)) then true else (!x4)) then true else (!x5)) then true else (!x6)))=true then U6 x1.Body else some default)>>=fun x7=>
  if (bif (bif (bif (bif (bif (!x2) then true else (!x3)) then true else (!x4)) then true else (!x5)) then true else (!x6)) then true else (!x7))=true then
   some false
  else
   Ea l (IntKind.i64.wrap (i+1))
 else
  some true
 partial_fixpoint
end
abbrev Pv (l:List B0)(res:Bool):Prop:=L0 C 68 [.d (.sl (B0.rows l))] [] (Ret [] (.d (.bool res)))
abbrev E14 (l:List B0)(i:Int)(res:Bool):Prop:=LM C 49 0 Tryz.f68 [1,0,1,4] [(0,.d (.sl (B0.rows l))),(3,.d (.int .i64 i))] [] (Ret [] (.d (.bool res)))
theorem M16:(∀ l res,S8 l=some res→Pv l res)∧(∀ l i res,Ea l i=some res→E14 l i res):=by
 refine S8.mutual_partial_correctness _ _ ?_ ?_
 ·intro g1 ih1 l res hh
  exact L0.intro hC Tryz.func68 rfl rfl rfl (t' rfl (S' (t' rfl (bk' (fw' (ih1 _ _ _ hh) rfl rfl rfl)))))
 ·intro g0 g1 ih0 ih1 l i res hh
  refine W0.unroll (S' (p' 2 rfl (qe' rfl trivial (B0.lenA _) (e' rfl (ci' rfl hh (fun hh=>?_) (fun hh=>?_))))))
  ·obtain ⟨x1,hx1,hh⟩:=bs' hh
   obtain ⟨x2,hx2,hh⟩:=bs' hh
   obtain ⟨x3,hx3,hh⟩:=bs' hh
   obtain ⟨x4,hx4,hh⟩:=bs' hh
   obtain ⟨x5,hx5,hh⟩:=bs' hh
   obtain ⟨x6,hx6,hh⟩:=bs' hh
   obtain ⟨x7,hx7,hh⟩:=bs' hh
   refine sk' (S' (bk' (p' 2 rfl (i' rfl (U0 hx1) (B0.idx hx1) rfl (q' rfl (E0.nf hC rfl (E0.s hC rfl (n' (sg' 34 rfl (G' 2 rfl (AG.c rfl rfl (fun _=>trivial) (fun _=>Cf hx2) (G' 3 rfl (a1' rfl ?_)))))))))))))
   refine AG.c rfl rfl (fun hg=>⟨hg,trivial⟩) (fun hw=>Nv (I1 hw hx3)) (a1' rfl (po' rfl (G' 2 rfl (a1' rfl (AG.c rfl rfl (fun hg=>⟨hg,trivial⟩) (fun hw=>Oi (I1 hw hx4)) (a1' rfl (po' rfl (G' 2 rfl (a1' rfl (AG.c rfl rfl (fun hg=>⟨hg,trivial⟩) (fun hw=>ih0 _ _ (I1 hw hx5)) (a1' rfl (po' rfl (G' 2 rfl ?_)))))))))))))
   refine a1' rfl (AG.c rfl rfl (fun hg=>⟨hg,trivial⟩) (fun hw=>ih0 _ _ (I1 hw hx6)) (a1' rfl (po' rfl (G' 2 rfl (a1' rfl (AG.c rfl rfl (fun hg=>⟨hg,trivial⟩) (fun hw=>Lt (I1 hw hx7)) (a1' rfl (po' rfl (an' (n' (ci' rfl hh (fun hh=>?_) (fun hh=>?_))))))))))))
   ·cases hh
    exact t' rfl (re' (rt' rfl rfl rfl))
   exact sk' (T' rfl (lw' (ih1 _ _ _ hh) rfl rfl rfl))
  cases hh
  exact ex' (t' rfl (re' (rt' rfl rfl rfl)))
theorem D19 {l res}(hh:S8 l=some res):Pv l res:=(M16).1 _ _ hh
def Qe (n:Int):Option Bool:=
 some (bif (decide (n≥(-1048576))) then (decide (n≤1048576)) else false)
theorem Pi {n res}(hh:Qe n=some res):L0 C 134 [.d (.int .i64 n)] [] (Ret [] (.d (.bool res))):=by
 unfold Qe at hh
 cases hh
 exact L0.intro hC Tryz.func134 rfl rfl rfl (t' rfl (sg' 7 rfl (G' 4 rfl (a1' rfl (pa' rfl (a0' rfl (an' (n' (re' (rt' rfl rfl rfl))))))))))
mutual
def U5 (t:A0):Option Bool:=
 (if (t.Kind == 1)=true then Qe t.Low else some default)>>=fun x1=>
 (if ((t.Kind == 1)&&(!(!x1)))=true then Qe t.High else some default)>>=fun x2=>
 if (bif (bif (bif (t.Kind == 1) then (bif (bif (!x1) then true else (!x2)) then true else (decide (t.Low > t.High))) else false) then true else (bif (t.Kind == 2) then (bif (decide (t.Size < 1)) then true else (decide (t.Size > 32))) else false)) then true else (decide (((t.Of).length:Int) > 32)))=true then
  some false
 else
  G9 t 0
 partial_fixpoint
def G9 (t:A0)(i:Int):Option Bool:=
 if (decide (i < ((t.Of).length:Int)))=true then
  idx t.Of i>>=fun x3=>
  U5 x3>>=fun x4=>
  if (!x4)=true then
   some false
  else
   G9 t (IntKind.i64.wrap (i+1))
 else
  some true
 partial_fixpoint
end
abbrev Mt (t:A0)(res:Bool):Prop:=L0 C 135 [.agg (A0.cells t)] [] (Ret [] (.d (.bool res)))
abbrev M12 (t:A0)(i:Int)(res:Bool):Prop:=LM C 61 0 Tryz.f135 [1,1,0,1,4] [(1,.ref 0 0),(3,.d (.int .i64 i))] [.row (A0.cells t) 40] (Ret [] (.d (.bool res)))
theorem F14:(∀ t res,U5 t=some res→Mt t res)∧(∀ t i res,G9 t i=some res→M12 t i res):=by
 refine U5.mutual_partial_correctness _ _ ?_ ?_
 ·intro g1 ih1 t res hh
  obtain ⟨x1,hx1,hh⟩:=bs' hh
  obtain ⟨x2,hx2,hh⟩:=bs' hh
  refine L0.intro hC Tryz.func135 rfl rfl rfl (s' rfl rfl (E0.n hC rfl (e' rfl (S' (sg' 43 rfl (G' 5 rfl (a1' rfl (AG.c rfl rfl (fun hg=>⟨hg,trivial⟩) (fun hw=>Pi (I1 hw hx1)) (a1' rfl (a1' rfl (a0' rfl (a1' rfl (AG.c rfl rfl (fun hg=>⟨hg,trivial⟩) (fun hw=>Pi (I1 hw hx2)) ?_)))))))))))))
  refine a1' rfl (pO' rfl (a1' rfl (a0' rfl (a1' rfl (a0' rfl (a1' rfl (a2' rfl (pO' rfl (pa' rfl (G' 2 rfl (a1' rfl (a1' rfl (a1' rfl ?_)))))))))))))
  refine a0' rfl (a1' rfl (a1' rfl (a1' rfl (a0' rfl (a1' rfl (a1' rfl (pO' rfl (pA' rfl (po' rfl (G' 2 rfl (a1' rfl (AG.qe hC rfl (fun hg=>⟨⟨hg,trivial⟩,trivial⟩) (A0.lenA _) (a1' rfl ?_)))))))))))))
  refine po' rfl (an' (n' (ci' rfl hh (fun hh=>?_) (fun hh=>?_))))
  ·cases hh
   exact t' rfl (re' (rt' rfl rfl rfl))
  exact sk' (S' (t' rfl (bk' (fw' (ih1 _ _ _ hh) rfl rfl rfl))))
 ·intro g0 g1 ih0 ih1 t i res hh
  refine W0.unroll (S' (p' 3 rfl (qe' rfl trivial (A0.lenA _) (e' rfl (ci' rfl hh (fun hh=>?_) (fun hh=>?_))))))
  ·obtain ⟨x3,hx3,hh⟩:=bs' hh
   obtain ⟨x4,hx4,hh⟩:=bs' hh
   refine sk' (S' (bk' (p' 3 rfl (i' rfl (U0 hx3) (A0.idx hx3) rfl (q' rfl (c' (ih0 _ _ hx4) rfl rfl (e' rfl (ci' rfl hh (fun hh=>?_) (fun hh=>?_)))))))))
   ·cases hh
    exact t' rfl (re' (rt' rfl rfl rfl))
   exact sk' (T' rfl (lw' (ih1 _ _ _ hh) rfl rfl rfl))
  cases hh
  exact ex' (t' rfl (re' (rt' rfl rfl rfl)))
theorem Ds {t res}(hh:U5 t=some res):Mt t res:=(F14).1 _ _ hh
mutual
def R3 (e:D0):Option Bool:=
 if (bif (e.Op == 0) then (bif (decide (e.NV < 0)) then true else (decide (e.NV > 1048576))) else false)=true then
  some false
 else
  H9 e 0
 partial_fixpoint
def H9 (e:D0)(i:Int):Option Bool:=
 if (decide (i < ((e.Kids).length:Int)))=true then
  idx e.Kids i>>=fun x1=>
  R3 x1>>=fun x2=>
  if (!x2)=true then
   some false
  else
   H9 e (IntKind.i64.wrap (i+1))
 else
  some true
 partial_fixpoint
end
abbrev Nt (e:D0)(res:Bool):Prop:=L0 C 93 [.agg (D0.cells e)] [] (Ret [] (.d (.bool res)))
abbrev N12 (e:D0)(i:Int)(res:Bool):Prop:=LM C 31 0 Tryz.f93 [1,1,0,1,4] [(1,.ref 0 0),(3,.d (.int .i64 i))] [.row (D0.cells e) 34] (Ret [] (.d (.bool res)))
theorem G14:(∀ e res,R3 e=some res→Nt e res)∧(∀ e i res,H9 e i=some res→N12 e i res):=by
 refine R3.mutual_partial_correctness _ _ ?_ ?_
 ·intro g1 ih1 e res hh
  refine L0.intro hC Tryz.func93 rfl rfl rfl (s' rfl rfl (E0.n hC rfl (e' rfl (S' (sg' 13 rfl (G' 5 rfl (a1' rfl (a1' rfl (a1' rfl (a0' rfl (a1' rfl (a1' rfl (pO' rfl ?_)))))))))))))
  refine pa' rfl (an' (n' (ci' rfl hh (fun hh=>?_) (fun hh=>?_))))
  ·cases hh
   exact t' rfl (re' (rt' rfl rfl rfl))
  exact sk' (S' (t' rfl (bk' (fw' (ih1 _ _ _ hh) rfl rfl rfl))))
 ·intro g0 g1 ih0 ih1 e i res hh
  refine W0.unroll (S' (p' 3 rfl (qe' rfl trivial (D0.lenA _) (e' rfl (ci' rfl hh (fun hh=>?_) (fun hh=>?_))))))
  ·obtain ⟨x1,hx1,hh⟩:=bs' hh
   obtain ⟨x2,hx2,hh⟩:=bs' hh
   refine sk' (S' (bk' (p' 3 rfl (i' rfl (U0 hx1) (D0.idx hx1) rfl (q' rfl (c' (ih0 _ _ hx2) rfl rfl (e' rfl (ci' rfl hh (fun hh=>?_) (fun hh=>?_)))))))))
   ·cases hh
    exact t' rfl (re' (rt' rfl rfl rfl))
   exact sk' (T' rfl (lw' (ih1 _ _ _ hh) rfl rfl rfl))
  cases hh
  exact ex' (t' rfl (re' (rt' rfl rfl rfl)))
theorem Ag {e res}(hh:R3 e=some res):Nt e res:=(G14).1 _ _ hh
def F5 (s:C0)(k:Int):Option Bool:=
 if (decide (k < ((s.Numbers).length:Int)))=true then
  idx s.Numbers k>>=fun x3=>
  (if (!(decide (x3 < 0)))=true then idx s.Numbers k else some default)>>=fun x4=>
  (if ((!(bif (decide (x3 < 0)) then true else (decide (x4 > 1048576))))&&(decide (k > 0)))=true then idx s.Numbers k else some default)>>=fun x5=>
  (if ((!(bif (decide (x3 < 0)) then true else (decide (x4 > 1048576))))&&(decide (k > 0)))=true then idx s.Numbers (IntKind.i64.wrap (k - 1)) else some default)>>=fun x6=>
  if (bif (bif (decide (x3 < 0)) then true else (decide (x4 > 1048576))) then true else (bif (decide (k > 0)) then (decide (x5≤x6)) else false))=true then
   some false
  else
   F5 s (IntKind.i64.wrap (k+1))
 else
  some true
 partial_fixpoint
abbrev Qp (s:C0)(k:Int)(res:Bool):Prop:=LM C 105 0 Tryz.f136 [1,1,1,1,0,1,2,1,1,4] [(1,.ref 0 0),(3,.d (.int .i64 k))] [.row (C0.cells s) 53] (Ret [] (.d (.bool res)))
theorem Jz (s:C0):(∀ k res,F5 s k=some res→Qp s k res):=by
 refine F5.partial_correctness s _ ?_
 ·intro g0 ih0 k res hh
  refine W0.unroll (S' (p' 3 rfl (qe' rfl trivial (ei64.lenA _) (e' rfl (ci' rfl hh (fun hh=>?_) (fun hh=>?_))))))
  ·obtain ⟨x3,hx3,hh⟩:=bs' hh
   obtain ⟨x4,hx4,hh⟩:=bs' hh
   obtain ⟨x5,hx5,hh⟩:=bs' hh
   obtain ⟨x6,hx6,hh⟩:=bs' hh
   refine sk' (S' (bk' (S' (AEx.drawG hC 32 rfl rfl rfl (G' 3 rfl (AG.i hC rfl rfl (fun _=>trivial) (fun hw=>⟨U0 hx3,ei64.idx hx3,rfl⟩) (G' 4 rfl (a1' rfl (a0' rfl (AG.i hC rfl rfl (fun hg=>⟨hg,hg,trivial⟩) (fun hw=>⟨U0 (I1 hw hx4),ei64.idx (I1 hw hx4),rfl⟩) (a1' rfl (a1' rfl (po' rfl ?_)))))))))))))
   refine G' 2 rfl (a1' rfl (a1' rfl (a0' rfl (a1' rfl (a0' rfl (AG.i hC rfl rfl (fun hg=>⟨hg,hg,trivial⟩) (fun hw=>⟨U0 (I1 hw hx5),ei64.idx (I1 hw hx5),rfl⟩) (a1' rfl (a0' rfl (a1' rfl (a0' rfl (a1' rfl (AG.i hC rfl rfl (fun hg=>⟨hg,hg,trivial⟩) (fun hw=>⟨U0 (I1 hw hx6),ei64.idx (I1 hw hx6),rfl⟩) (a1' rfl ?_)))))))))))))
   refine a2' rfl (pA' rfl (po' rfl (an' (n' (ci' rfl hh (fun hh=>?_) (fun hh=>?_))))))
   ·cases hh
    exact t' rfl (re' (rt' rfl rfl rfl))
   exact sk' (T' rfl (lw' (ih0 _ _ hh) rfl rfl rfl))
  cases hh
  exact ex' (t' rfl (re' (rt' rfl rfl rfl)))
theorem L10 {s k res}(hh:F5 s k=some res):Qp s k res:=(Jz s) _ _ hh
end Go.Proofs.YtdkabnfphmmmnaaGreatDoor

set_option maxRecDepth 100000
set_option maxHeartbeats 4000000
set_option synthInstance.maxSize 20000
set_option linter.unusedVariables false
namespace Go.Proofs.YtdkabnfphmmmnaaGreatDoor
open Go.Am
def Sf (s:C0):Option Bool:=
 if (s.Verb == 4)=true then
  some (bif (decide (s.NV≥0)) then (decide (s.NV≤1048576)) else false)
 else
  if (s.Verb == 6)=true then
   some (bif (decide (s.NV≥0)) then (decide (s.NV≤4096)) else false)
  else
   if (s.Verb == 7)=true then
    Qe s.Low>>=fun x1=>
    (if x1=true then Qe s.High else some default)>>=fun x2=>
    some (bif (bif (bif x1 then x2 else false) then (decide (s.Low≤s.High)) else false) then (decide ((IntKind.i64.wrap ((IntKind.i64.wrap (s.High - s.Low))+1))≤4096)) else false)
   else
    if (s.Verb == 8)=true then
     if (bif (decide (((s.Numbers).length:Int) < 1)) then true else (decide (((s.Numbers).length:Int) > 32)))=true then
      some false
     else
      F5 s 0
    else
     some true
theorem N16 {s res}(hh:Sf s=some res):L0 C 136 [.agg (C0.cells s)] [] (Ret [] (.d (.bool res))):=by
 unfold Sf at hh
 refine L0.intro hC Tryz.func136 rfl rfl rfl (s' rfl rfl (E0.n hC rfl (e' rfl (S' (t' rfl (ci' rfl hh (fun hh=>?_) (fun hh=>?_)))))))
 ·cases hh
  exact sg' 9 rfl (G' 5 rfl (a1' rfl (a1' rfl (pa' rfl (a0' rfl (an' (n' (re' (rt' rfl rfl rfl)))))))))
 refine sk' (S' (t' rfl (ci' rfl hh (fun hh=>?_) (fun hh=>?_))))
 ·cases hh
  exact sg' 9 rfl (G' 5 rfl (a1' rfl (a1' rfl (pa' rfl (a0' rfl (an' (n' (re' (rt' rfl rfl rfl)))))))))
 refine sk' (S' (t' rfl (ci' rfl hh (fun hh=>?_) (fun hh=>?_))))
 ·obtain ⟨x1,hx1,hh⟩:=bs' hh
  obtain ⟨x2,hx2,hh⟩:=bs' hh
  cases hh
  refine sg' 25 rfl (G' 2 rfl (AG.c rfl rfl (fun _=>trivial) (fun _=>Pi hx1) (G' 2 rfl (a1' rfl (AG.c rfl rfl (fun hg=>⟨hg,trivial⟩) (fun hw=>Pi (I1 hw hx2)) (pa' rfl (G' 2 rfl (a1' rfl (a0' rfl (a1' rfl (a2' rfl (pa' rfl (G' 2 rfl ?_)))))))))))))
  exact a1' rfl (a0' rfl (a1' rfl (a2' rfl (a1' rfl (a1' rfl (pa' rfl (a0' rfl (an' (n' (re' (rt' rfl rfl rfl)))))))))))
 refine sk' (S' (t' rfl (ci' rfl hh (fun hh=>?_) (fun hh=>?_))))
 ·refine S' (sg' 10 rfl (G' 2 rfl (AG.qe hC rfl (fun hg=>⟨trivial,trivial⟩) (ei64.lenA _) (G' 3 rfl (a1' rfl (AG.qe hC rfl (fun hg=>⟨⟨hg,trivial⟩,trivial⟩) (ei64.lenA _) (a1' rfl (po' rfl (an' (n' (ci' rfl hh (fun hh=>?_) (fun hh=>?_))))))))))))
  ·cases hh
   exact t' rfl (re' (rt' rfl rfl rfl))
  exact sk' (t' rfl (bk' (fw' (L10 hh) rfl rfl rfl)))
 cases hh
 exact sk' (t' rfl (re' (rt' rfl rfl rfl)))
mutual
def G5 (l:List C0):Option Bool:=
 E8 l 0
 partial_fixpoint
def E8 (l:List C0)(i:Int):Option Bool:=
 if (decide (i < ((l).length:Int)))=true then
  idx l i>>=fun x1=>
  Sf x1>>=fun x2=>
  (if (!(!x2))=true then R3 x1.Place else some default)>>=fun x3=>
  (if (!(bif (!x2) then true else (!x3)))=true then R3 x1.Value else some default)>>=fun x4=>
  (if (!(bif (bif (!x2) then true else (!x3)) then true else (!x4)))=true then G5 x1.Then else some default)>>=fun x5=>
  (if (!(bif (bif (bif (!x2) then true else (!x3)) then true else (!x4)) then true else (!x5)))=true then G5 x1.Else else some default)>>=fun x6=>
  if (bif (bif (bif (bif (!x2) then true else (!x3)) then true else (!x4)) then true else (!x5)) then true else (!x6))=true then
   some false
  else
   Mb l x1 i 0
 else
  some true
 partial_fixpoint
def Mb (l:List C0)(x1:C0)(i1:Int)(k:Int):Option Bool:=
 if (decide (k < ((x1.Args).length:Int)))=true then
  idx x1.Args k>>=fun x7=>
  R3 x7>>=fun x8=>
  if (!x8)=true then
   some false
  else
   Mb l x1 i1 (IntKind.i64.wrap (k+1))
 else
  E8 l (IntKind.i64.wrap (i1+1))
 partial_fixpoint
end
abbrev Es (l:List C0)(res:Bool):Prop:=L0 C 71 [.d (.sl (C0.rows l))] [] (Ret [] (.d (.bool res)))
abbrev M10 (l:List C0)(i:Int)(res:Bool):Prop:=LM C 57 0 Tryz.f71 [1,0,1,4] [(0,.d (.sl (C0.rows l))),(3,.d (.int .i64 i))] [] (Ret [] (.d (.bool res)))
abbrev N10 (l:List C0)(x1:C0)(i1:Int)(k:Int)(res:Bool):Prop:=LM C 57 0 Tryz.f71 [1,0,1,4,5,1,0,4,1,1,1,4] [(0,.d (.sl (C0.rows l))),(3,.d (.int .i64 i1)),(4,.ref 0 0),(5,.d (.int .i64 k))] [.row (C0.cells x1) 53] (Ret [] (.d (.bool res)))
theorem O12:(∀ l res,G5 l=some res→Es l res)∧(∀ l i res,E8 l i=some res→M10 l i res)∧(∀ l x1 i1 k res,Mb l x1 i1 k=some res→N10 l x1 i1 k res):=by
 refine G5.mutual_partial_correctness _ _ _ ?_ ?_ ?_
 ·intro g1 ih1 l res hh
  exact L0.intro hC Tryz.func71 rfl rfl rfl (t' rfl (S' (t' rfl (bk' (fw' (ih1 _ _ _ hh) rfl rfl rfl)))))
 ·intro g0 g2 ih0 ih2 l i res hh
  refine W0.unroll (S' (p' 2 rfl (qe' rfl trivial (C0.lenA _) (e' rfl (ci' rfl hh (fun hh=>?_) (fun hh=>?_))))))
  ·obtain ⟨x1,hx1,hh⟩:=bs' hh
   obtain ⟨x2,hx2,hh⟩:=bs' hh
   obtain ⟨x3,hx3,hh⟩:=bs' hh
   obtain ⟨x4,hx4,hh⟩:=bs' hh
   obtain ⟨x5,hx5,hh⟩:=bs' hh
   obtain ⟨x6,hx6,hh⟩:=bs' hh
   refine sk' (S' (bk' (p' 2 rfl (i' rfl (U0 hx1) (C0.idx hx1) rfl (q' rfl (E0.nf hC rfl (E0.s hC rfl (n' (S' (sg' 27 rfl (a0' rfl (AG.c rfl rfl (fun _=>trivial) (fun _=>N16 hx2) (G' 3 rfl ?_)))))))))))))
   refine a1' rfl (AG.c rfl rfl (fun hg=>⟨hg,trivial⟩) (fun hw=>Ag (I1 hw hx3)) (a1' rfl (po' rfl (G' 2 rfl (a1' rfl (AG.c rfl rfl (fun hg=>⟨hg,trivial⟩) (fun hw=>Ag (I1 hw hx4)) (a1' rfl (po' rfl (G' 2 rfl (a1' rfl (AG.c rfl rfl (fun hg=>⟨hg,trivial⟩) (fun hw=>ih0 _ _ (I1 hw hx5)) (a1' rfl (po' rfl ?_)))))))))))))
   refine G' 2 rfl (a1' rfl (AG.c rfl rfl (fun hg=>⟨hg,trivial⟩) (fun hw=>ih0 _ _ (I1 hw hx6)) (a1' rfl (po' rfl (an' (n' (ci' rfl hh (fun hh=>?_) (fun hh=>?_))))))))
   ·cases hh
    exact t' rfl (re' (rt' rfl rfl rfl))
   exact sk' (t' rfl (bk' (fw' (ih2 _ _ _ _ _ hh) rfl rfl rfl)))
  cases hh
  exact ex' (t' rfl (re' (rt' rfl rfl rfl)))
 ·intro g1 g2 ih1 ih2 l x1 i1 k res hh
  refine W0.unroll (S' (p' 3 rfl (qe' rfl trivial (D0.lenA _) (e' rfl (ci' rfl hh (fun hh=>?_) (fun hh=>?_))))))
  ·obtain ⟨x7,hx7,hh⟩:=bs' hh
   obtain ⟨x8,hx8,hh⟩:=bs' hh
   refine sk' (S' (bk' (p' 3 rfl (i' rfl (U0 hx7) (D0.idx hx7) rfl (q' rfl (c' (Ag hx8) rfl rfl (e' rfl (ci' rfl hh (fun hh=>?_) (fun hh=>?_)))))))))
   ·cases hh
    exact t' rfl (re' (rt' rfl rfl rfl))
   exact sk' (T' rfl (lw' (ih2 _ _ _ _ _ hh) rfl rfl rfl))
  exact ex' (T' rfl (lw' (ih1 _ _ _ hh) rfl rfl rfl))
theorem Uq {l res}(hh:G5 l=some res):Es l res:=(O12).1 _ _ hh
mutual
def L6 (l:List B0):Option Bool:=
 F8 l 0
 partial_fixpoint
def F8 (l:List B0)(i:Int):Option Bool:=
 if (decide (i < ((l).length:Int)))=true then
  idx l i>>=fun x1=>
  Qe x1.Init>>=fun x2=>
  if (bif (!x2) then true else (bif (x1.TypeV.Kind == 0) then (bif (decide (x1.Init < 0)) then true else (decide (x1.Init > 1))) else false))=true then
   some false
  else
   U5 x1.TypeV>>=fun x3=>
   (if (!(!x3))=true then R3 x1.Value else some default)>>=fun x4=>
   (if (!(bif (!x3) then true else (!x4)))=true then L6 x1.Params else some default)>>=fun x5=>
   (if (!(bif (bif (!x3) then true else (!x4)) then true else (!x5)))=true then L6 x1.Vars else some default)>>=fun x6=>
   (if (!(bif (bif (bif (!x3) then true else (!x4)) then true else (!x5)) then true else (!x6)))=true then G5 x1.Body else some default)>>=fun x7=>
   if (bif (bif (bif (bif (!x3) then true else (!x4)) then true else (!x5)) then true else (!x6)) then true else (!x7))=true then
    some false
   else
    F8 l (IntKind.i64.wrap (i+1))
 else
  some true
 partial_fixpoint
end
abbrev Fs (l:List B0)(res:Bool):Prop:=L0 C 70 [.d (.sl (B0.rows l))] [] (Ret [] (.d (.bool res)))
abbrev O10 (l:List B0)(i:Int)(res:Bool):Prop:=LM C 63 0 Tryz.f70 [1,0,1,4] [(0,.d (.sl (B0.rows l))),(3,.d (.int .i64 i))] [] (Ret [] (.d (.bool res)))
theorem P12:(∀ l res,L6 l=some res→Fs l res)∧(∀ l i res,F8 l i=some res→O10 l i res):=by
 refine L6.mutual_partial_correctness _ _ ?_ ?_
 ·intro g1 ih1 l res hh
  exact L0.intro hC Tryz.func70 rfl rfl rfl (t' rfl (S' (t' rfl (bk' (fw' (ih1 _ _ _ hh) rfl rfl rfl)))))
 ·intro g0 g1 ih0 ih1 l i res hh
  refine W0.unroll (S' (p' 2 rfl (qe' rfl trivial (B0.lenA _) (e' rfl (ci' rfl hh (fun hh=>?_) (fun hh=>?_))))))
  ·obtain ⟨x1,hx1,hh⟩:=bs' hh
   obtain ⟨x2,hx2,hh⟩:=bs' hh
   refine sk' (S' (bk' (p' 2 rfl (i' rfl (U0 hx1) (B0.idx hx1) rfl (q' rfl (E0.nf hC rfl (E0.s hC rfl (n' (S' (sg' 20 rfl (G' 2 rfl (AG.c rfl rfl (fun _=>trivial) (fun _=>Pi hx2) (G' 3 rfl ?_)))))))))))))
   refine a1' rfl (a1' rfl (a1' rfl (a1' rfl (a0' rfl (a1' rfl (a1' rfl (a1' rfl (a0' rfl (a1' rfl (a1' rfl (pO' rfl (pA' rfl (po' rfl ?_)))))))))))))
   refine an' (n' (ci' rfl hh (fun hh=>?_) (fun hh=>?_)))
   ·cases hh
    exact t' rfl (re' (rt' rfl rfl rfl))
   obtain ⟨x3,hx3,hh⟩:=bs' hh
   obtain ⟨x4,hx4,hh⟩:=bs' hh
   obtain ⟨x5,hx5,hh⟩:=bs' hh
   obtain ⟨x6,hx6,hh⟩:=bs' hh
   obtain ⟨x7,hx7,hh⟩:=bs' hh
   refine sk' (sg' 28 rfl (G' 2 rfl (AG.c rfl rfl (fun _=>trivial) (fun _=>Ds hx3) (G' 3 rfl (a1' rfl (AG.c rfl rfl (fun hg=>⟨hg,trivial⟩) (fun hw=>Ag (I1 hw hx4)) (a1' rfl (po' rfl (G' 2 rfl (a1' rfl (AG.c rfl rfl (fun hg=>⟨hg,trivial⟩) (fun hw=>ih0 _ _ (I1 hw hx5)) (a1' rfl (po' rfl ?_)))))))))))))
   refine G' 2 rfl (a1' rfl (AG.c rfl rfl (fun hg=>⟨hg,trivial⟩) (fun hw=>ih0 _ _ (I1 hw hx6)) (a1' rfl (po' rfl (G' 2 rfl (a1' rfl (AG.c rfl rfl (fun hg=>⟨hg,trivial⟩) (fun hw=>Uq (I1 hw hx7)) (a1' rfl (po' rfl (an' (n' (ci' rfl hh (fun hh=>?_) (fun hh=>?_)))))))))))))
   ·cases hh
    exact t' rfl (re' (rt' rfl rfl rfl))
   exact sk' (T' rfl (lw' (ih1 _ _ _ hh) rfl rfl rfl))
  cases hh
  exact ex' (t' rfl (re' (rt' rfl rfl rfl)))
theorem H14 {l res}(hh:L6 l=some res):Fs l res:=(P12).1 _ _ hh
def Fi (s:V0)(form:Bool)(names:Bool)(numbers:Bool):Option Int:=
 if (bif (decide (s.nodes > 1024)) then true else (decide (s.depth > 12)))=true then
  some 4
 else
  if (!form)=true then
   some 1
  else
   if (!names)=true then
    some 7
   else
    if (!numbers)=true then
     some 3
    else
     some 0
theorem Kz {s form names numbers res}(hh:Fi s form names numbers=some res):L0 C 64 [.agg (V0.cells s),.d (.bool form),.d (.bool names),.d (.bool numbers)] [] (Ret [] (.d (.int .i64 res))):=by
 unfold Fi at hh
 refine L0.intro hC Tryz.func64 rfl rfl rfl (s' rfl rfl (E0.n hC rfl (e' rfl (S' (sg' 8 rfl (G' 5 rfl (a1' rfl (a1' rfl (po' rfl (an' (n' (ci' rfl hh (fun hh=>?_) (fun hh=>?_)))))))))))))
 ·cases hh
  exact t' rfl (re' (rt' rfl rfl rfl))
 refine sk' (S' (t' rfl (ci' rfl hh (fun hh=>?_) (fun hh=>?_))))
 ·cases hh
  exact t' rfl (re' (rt' rfl rfl rfl))
 refine sk' (S' (t' rfl (ci' rfl hh (fun hh=>?_) (fun hh=>?_))))
 ·cases hh
  exact t' rfl (re' (rt' rfl rfl rfl))
 refine sk' (S' (t' rfl (ci' rfl hh (fun hh=>?_) (fun hh=>?_))))
 ·cases hh
  exact t' rfl (re' (rt' rfl rfl rfl))
 cases hh
 exact sk' (t' rfl (re' (rt' rfl rfl rfl)))
def Rp (p:F0):Option Int:=
 Pp p>>=fun x1=>
 Z9 p.Decls>>=fun x2=>
 (if x2=true then U7 p.Body else some default)>>=fun x3=>
 S8 p.Decls>>=fun x4=>
 (if x4=true then U6 p.Body else some default)>>=fun x5=>
 L6 p.Decls>>=fun x6=>
 (if x6=true then G5 p.Body else some default)>>=fun x7=>
 Fi x1 (bif x2 then x3 else false) (bif x4 then x5 else false) (bif x6 then x7 else false)>>=fun x8=>
 some x8
theorem L1l {p res}(hh:Rp p=some res):L0 C 34 [.agg (F0.cells p)] [] (Ret [] (.d (.int .i64 res))):=by
 unfold Rp at hh
 obtain ⟨x1,hx1,hh⟩:=bs' hh
 obtain ⟨x2,hx2,hh⟩:=bs' hh
 obtain ⟨x3,hx3,hh⟩:=bs' hh
 obtain ⟨x4,hx4,hh⟩:=bs' hh
 obtain ⟨x5,hx5,hh⟩:=bs' hh
 obtain ⟨x6,hx6,hh⟩:=bs' hh
 obtain ⟨x7,hx7,hh⟩:=bs' hh
 obtain ⟨x8,hx8,hh⟩:=bs' hh
 cases hh
 refine L0.intro hC Tryz.func34 rfl rfl rfl (s' rfl rfl (E0.n hC rfl (e' rfl (S' (AEx.drawG hC 28 rfl rfl rfl (a0' rfl (AG.c rfl rfl (fun _=>trivial) (fun _=>I1l hx1) (G' 2 rfl (AG.c rfl rfl (fun _=>trivial) (fun _=>A1b hx2) (G' 2 rfl (a1' rfl (AG.c rfl rfl (fun hg=>⟨hg,trivial⟩) (fun hw=>Lv (I1 hw hx3)) (pa' rfl ?_)))))))))))))
 refine G' 2 rfl (AG.c rfl rfl (fun _=>trivial) (fun _=>D19 hx4) (G' 2 rfl (a1' rfl (AG.c rfl rfl (fun hg=>⟨hg,trivial⟩) (fun hw=>Lt (I1 hw hx5)) (pa' rfl (G' 2 rfl (AG.c rfl rfl (fun _=>trivial) (fun _=>H14 hx6) (G' 2 rfl (a1' rfl (AG.c rfl rfl (fun hg=>⟨hg,trivial⟩) (fun hw=>Uq (I1 hw hx7)) (pa' rfl ?_)))))))))))
 exact AG.c rfl rfl (fun _=>trivial) (fun _=>Kz hx8) (a0' rfl (an' (n' (re' (rt' rfl rfl rfl)))))
def Nb (p:F0)(out:List Str)(i:Int):Option (List Str):=
 if (decide (i < ((p.Decls).length:Int)))=true then
  idx p.Decls i>>=fun x1=>
  if (decide ((out.length+1) * 17≤140737488355328))=true then
   Nb p (out++[x1.Name]) (IntKind.i64.wrap (i+1))
  else none
 else
  some out
 partial_fixpoint
abbrev Lz (p:F0)(out:List Str)(i:Int)(res:List Str):Prop:=LM C 23 0 Tryz.f72 [1,1,0,1,4] [(1,.ref 0 0),(3,.osl 1 (estr.rows out)),(4,.d (.int .i64 i))] [.row (F0.cells p) 25,.tok 9 1] (Ret [.dead,.tok 9 1] (.osl 1 (estr.rows res)))
theorem B1b (p:F0):(∀ out i res,Nb p out i=some res→Lz p out i res):=by
 refine Nb.partial_correctness p _ ?_
 ·intro g0 ih0 out i res hh
  refine W0.unroll (S' (p' 3 rfl (qe' rfl trivial (B0.lenA _) (e' rfl (ci' rfl hh (fun hh=>?_) (fun hh=>?_))))))
  ·obtain ⟨x1,hx1,hh⟩:=bs' hh
   obtain ⟨c8,hh⟩:=G1 hh
   exact sk' (S' (bk' (P' 4 rfl (i' rfl (U0 hx1) (B0.idx hx1) rfl (o' 2 rfl (E0.be hC rfl (estr.rows_map [x1.Name]).symm (E0.ap hC rfl (rs:=estr.rows (out++[x1.Name])) (estr.app out [x1.Name]) (estr.sz out) (estr.sz [x1.Name]) (X3 (estr.len out) (estr.len [x1.Name]) c8) (e' rfl (T' rfl (lw' (ih0 _ _ _ hh) rfl rfl rfl))))))))))
  refine ex' (t' rfl (re' ?_))
  obtain rfl:=oi' hh
  exact ⟨_,_,[.dead,.tok 9 1],rfl,.rfl,⟨trivial,rfl,trivial⟩,rfl,rfl,rfl,rfl⟩
theorem A1e {p out i res}(hh:Nb p out i=some res):Lz p out i res:=(B1b p) _ _ _ hh
def Im (p:F0):Option (List Str):=
 Nb p [] 0
theorem Eu {p res}(hh:Im p=some res):L0 C 72 [.agg (F0.cells p)] [] (Ret [.dead,.tok 9 1] (.osl 1 (estr.rows res))):=by
 unfold Im at hh
 exact L0.intro hC Tryz.func72 rfl rfl rfl (s' rfl rfl (E0.n hC rfl (e' rfl (s' rfl rfl (E0.be hC rfl (estr.rows_map []).symm (E0.tokE 5 9 1 rfl (e' rfl (S' (t' rfl (bk' (fw' (A1e hh) rfl rfl rfl)))))))))))
def Pb (l:List Str)(name:Str)(i:Int):Option Bool:=
 if (decide (i < ((l).length:Int)))=true then
  idx l i>>=fun x1=>
  if (x1 == name)=true then
   some true
  else
   Pb l name (IntKind.i64.wrap (i+1))
 else
  some false
 partial_fixpoint
abbrev Mz (l:List Str)(name:Str)(i:Int)(res:Bool):Prop:=LM C 18 0 Tryz.f73 [1,0,1,4] [(0,.d (.sl (estr.rows l))),(1,.d (.str name)),(5,.d (.int .i64 i))] [] (Ret [] (.d (.bool res)))
theorem C1b (l:List Str)(name:Str):(∀ i res,Pb l name i=some res→Mz l name i res):=by
 refine Pb.partial_correctness l name _ ?_
 ·intro g0 ih0 i res hh
  refine W0.unroll (S' (p' 2 rfl (qe' rfl trivial (estr.lenA _) (e' rfl (ci' rfl hh (fun hh=>?_) (fun hh=>?_))))))
  ·obtain ⟨x1,hx1,hh⟩:=bs' hh
   refine sk' (S' (bk' (p' 2 rfl (i' rfl (U0 hx1) (estr.idx hx1) rfl (e' rfl (ci' rfl hh (fun hh=>?_) (fun hh=>?_)))))))
   ·cases hh
    exact t' rfl (re' (rt' rfl rfl rfl))
   exact sk' (T' rfl (lw' (ih0 _ _ hh) rfl rfl rfl))
  cases hh
  exact ex' (t' rfl (re' (rt' rfl rfl rfl)))
theorem B1e {l name i res}(hh:Pb l name i=some res):Mz l name i res:=(C1b l name) _ _ hh
def Fj (l:List Str)(name:Str):Option Bool:=
 Pb l name 0
theorem Qo {l name res}(hh:Fj l name=some res):L0 C 73 [.d (.sl (estr.rows l)),.d (.str name)] [] (Ret [] (.d (.bool res))):=by
 unfold Fj at hh
 exact L0.intro hC Tryz.func73 rfl rfl rfl (t' rfl (S' (t' rfl (bk' (fw' (B1e hh) rfl rfl rfl)))))
mutual
def H5 (p:F0)(x1:List Str)(i:Int):Option Int:=
 if (decide (i < ((p.Decls).length:Int)))=true then
  idx p.Decls i>>=fun x2=>
  slc x1 0 i>>=fun x3=>
  Fj x3 x2.Name>>=fun x4=>
  if x4=true then
   some i
  else
   if (decide ((0+x1.length) * 17≤140737488355328))=true then
    Qb p x2 x1 i x1 0
   else none
 else
  some (-1)
 partial_fixpoint
def Qb (p:F0)(x2:B0)(x1:List Str)(i1:Int)(inner:List Str)(k:Int):Option Int:=
 if (decide (k < ((x2.Params).length:Int)))=true then
  idx x2.Params k>>=fun x5=>
  Fj inner x5.Name>>=fun x6=>
  if x6=true then
   some i1
  else
   idx x2.Params k>>=fun x7=>
   if (decide ((inner.length+1) * 17≤140737488355328))=true then
    Qb p x2 x1 i1 (inner++[x7.Name]) (IntKind.i64.wrap (k+1))
   else none
 else
  Rb p x2 x1 i1 inner 0
 partial_fixpoint
def Rb (p:F0)(x2:B0)(x1:List Str)(i2:Int)(inner1:List Str)(k1:Int):Option Int:=
 if (decide (k1 < ((x2.Vars).length:Int)))=true then
  idx x2.Vars k1>>=fun x8=>
  Fj inner1 x8.Name>>=fun x9=>
  if x9=true then
   some i2
  else
   idx x2.Vars k1>>=fun x10=>
   if (decide ((inner1.length+1) * 17≤140737488355328))=true then
    Rb p x2 x1 i2 (inner1++[x10.Name]) (IntKind.i64.wrap (k1+1))
   else none
 else
  H5 p x1 (IntKind.i64.wrap (i2+1))
 partial_fixpoint
end
abbrev Gs (p:F0)(x1:List Str)(i:Int)(res:Int):Prop:=LM C 83 0 Tryz.f35 [1,1,0,1,4] [(1,.ref 0 0),(3,.d (.sl (estr.rows x1))),(4,.d (.int .i64 i))] [.row (F0.cells p) 25] (Ret [] (.d (.int .i64 res)))
abbrev O16 (p:F0)(x2:B0)(x1:List Str)(i1:Int)(inner:List Str)(k:Int)(res:Int):Prop:=LM C 83 0 Tryz.f35 [1,1,0,1,4,5,1,0,4,1,1,1,0,1,4] [(1,.ref 0 0),(3,.d (.sl (estr.rows x1))),(4,.d (.int .i64 i1)),(5,.ref 1 0),(6,.osl 2 (estr.rows inner)),(7,.d (.int .i64 k))] [.row (F0.cells p) 25,.row (B0.cells x2) 59,.tok 9 1] (Ret [] (.d (.int .i64 res)))
abbrev P16 (p:F0)(x2:B0)(x1:List Str)(i2:Int)(inner1:List Str)(k1:Int)(res:Int):Prop:=LM C 83 0 Tryz.f35 [1,1,0,1,4,5,1,0,4,1,1,1,1,1,4] [(1,.ref 0 0),(3,.d (.sl (estr.rows x1))),(4,.d (.int .i64 i2)),(5,.ref 1 0),(6,.osl 2 (estr.rows inner1)),(8,.d (.int .i64 k1))] [.row (F0.cells p) 25,.row (B0.cells x2) 59,.tok 9 1] (Ret [] (.d (.int .i64 res)))
theorem Q12 (p:F0)(x1:List Str):(∀ i res,H5 p x1 i=some res→Gs p x1 i res)∧(∀ x2 i1 inner k res,Qb p x2 x1 i1 inner k=some res→O16 p x2 x1 i1 inner k res)∧(∀ x2 i2 inner1 k1 res,Rb p x2 x1 i2 inner1 k1=some res→P16 p x2 x1 i2 inner1 k1 res):=by
 refine H5.mutual_partial_correctness p x1 _ _ _ ?_ ?_ ?_
 ·intro g1 ih1 i res hh
  refine W0.unroll (S' (p' 3 rfl (qe' rfl trivial (B0.lenA _) (e' rfl (ci' rfl hh (fun hh=>?_) (fun hh=>?_))))))
  ·obtain ⟨x2,hx2,hh⟩:=bs' hh
   obtain ⟨x3,hx3,hh⟩:=bs' hh
   obtain ⟨x4,hx4,hh⟩:=bs' hh
   refine sk' (S' (bk' (p' 3 rfl (i' rfl (U0 hx2) (B0.idx hx2) rfl (q' rfl (E0.nf hC rfl (E0.s hC rfl (n' (S' (S' (AEx.draw hC 6 rfl rfl rfl (O' 2 rfl (AQ.dx hC rfl (estr.part hx3) (estr.sz _) ?_)))))))))))))
   refine O' 2 rfl (Qc' (Qo hx4) rfl rfl (Qn' (n' (ci' rfl hh (fun hh=>?_) (fun hh=>?_)))))
   ·cases hh
    exact t' rfl (re' (rt' rfl rfl rfl))
   obtain ⟨c27,hh⟩:=G1 hh
   exact sk' (s' rfl rfl (E0.be hC rfl (estr.rows_map []).symm (q' rfl (E0.ap hC rfl (rs:=estr.rows x1) rfl (estr.sz []) (estr.sz x1) (X3 (estr.len []) (estr.len x1) c27) (e' rfl (S' (t' rfl (bk' (fw' (ih1 _ _ _ _ _ hh) rfl rfl rfl)))))))))
  cases hh
  exact ex' (t' rfl (re' (rt' rfl rfl rfl)))
 ·intro g1 g2 ih1 ih2 x2 i1 inner k res hh
  refine W0.unroll (S' (p' 3 rfl (qe' rfl trivial (B0.lenA _) (e' rfl (ci' rfl hh (fun hh=>?_) (fun hh=>?_))))))
  ·obtain ⟨x5,hx5,hh⟩:=bs' hh
   obtain ⟨x6,hx6,hh⟩:=bs' hh
   refine sk' (S' (bk' (S' (p' 4 rfl (i' rfl (U0 hx5) (B0.idx hx5) rfl (o' 2 rfl (E0.cl rfl (Qo hx6) ⟨.osl,.rfl,trivial⟩ rfl (n' (ci' rfl hh (fun hh=>?_) (fun hh=>?_))))))))))
   ·cases hh
    exact t' rfl (re' (rt' rfl rfl rfl))
   obtain ⟨x7,hx7,hh⟩:=bs' hh
   obtain ⟨c28,hh⟩:=G1 hh
   exact sk' (P' 4 rfl (i' rfl (U0 hx7) (B0.idx hx7) rfl (o' 2 rfl (E0.be hC rfl (estr.rows_map [x7.Name]).symm (E0.ap hC rfl (rs:=estr.rows (inner++[x7.Name])) (estr.app inner [x7.Name]) (estr.sz inner) (estr.sz [x7.Name]) (X3 (estr.len inner) (estr.len [x7.Name]) c28) (e' rfl (T' rfl (lw' (ih1 _ _ _ _ _ hh) rfl rfl rfl))))))))
  exact ex' (t' rfl (bk' (fw' (ih2 _ _ _ _ _ hh) rfl rfl rfl)))
 ·intro g0 g2 ih0 ih2 x2 i2 inner1 k1 res hh
  refine W0.unroll (S' (p' 3 rfl (qe' rfl trivial (B0.lenA _) (e' rfl (ci' rfl hh (fun hh=>?_) (fun hh=>?_))))))
  ·obtain ⟨x8,hx8,hh⟩:=bs' hh
   obtain ⟨x9,hx9,hh⟩:=bs' hh
   refine sk' (S' (bk' (S' (p' 4 rfl (i' rfl (U0 hx8) (B0.idx hx8) rfl (o' 2 rfl (E0.cl rfl (Qo hx9) ⟨.osl,.rfl,trivial⟩ rfl (n' (ci' rfl hh (fun hh=>?_) (fun hh=>?_))))))))))
   ·cases hh
    exact t' rfl (re' (rt' rfl rfl rfl))
   obtain ⟨x10,hx10,hh⟩:=bs' hh
   obtain ⟨c29,hh⟩:=G1 hh
   exact sk' (P' 4 rfl (i' rfl (U0 hx10) (B0.idx hx10) rfl (o' 2 rfl (E0.be hC rfl (estr.rows_map [x10.Name]).symm (E0.ap hC rfl (rs:=estr.rows (inner1++[x10.Name])) (estr.app inner1 [x10.Name]) (estr.sz inner1) (estr.sz [x10.Name]) (X3 (estr.len inner1) (estr.len [x10.Name]) c29) (e' rfl (T' rfl (lw' (ih2 _ _ _ _ _ hh) rfl rfl rfl))))))))
  exact ex' (T' rfl (lw' (ih0 _ _ hh) rfl rfl rfl))
theorem I14 {p x1 i res}(hh:H5 p x1 i=some res):Gs p x1 i res:=(Q12 p x1).1 _ _ hh
def Qi (p:F0):Option Int:=
 Im p>>=fun x1=>
 H5 p x1 0
theorem D1b {p res}(hh:Qi p=some res):L0 C 35 [.agg (F0.cells p)] [] (Ret [] (.d (.int .i64 res))):=by
 unfold Qi at hh
 obtain ⟨x1,hx1,hh⟩:=bs' hh
 refine L0.intro hC Tryz.func35 rfl rfl rfl (s' rfl rfl (E0.n hC rfl (e' rfl (p' 1 rfl (g' [] (Eu hx1) rfl rfl rfl rfl rfl rfl (e' rfl (S' (t' rfl (bk' ?_)))))))))
 refine AEx.ofLoop ?_
 refine W0.wk ?_ (I14 hh)
 exact ⟨⟨⟨.rfl,rfl⟩,⟨.osl,rfl⟩,⟨.rfl,rfl⟩,trivial⟩,⟨⟨rfl,.refl _,rfl⟩,trivial⟩,rfl⟩
def Df (t:A0):Option Int:=
 Bd (V0.mk 0 0) t true>>=fun x1=>
 F9 t>>=fun x2=>
 V7 t>>=fun x3=>
 U5 t>>=fun x4=>
 Fi x1 x2 x3 x4>>=fun x5=>
 some x5
theorem Qv {t res}(hh:Df t=some res):L0 C 195 [.agg (A0.cells t)] [] (Ret [] (.d (.int .i64 res))):=by
 unfold Df at hh
 obtain ⟨x1,hx1,hh⟩:=bs' hh
 obtain ⟨x2,hx2,hh⟩:=bs' hh
 obtain ⟨x3,hx3,hh⟩:=bs' hh
 obtain ⟨x4,hx4,hh⟩:=bs' hh
 obtain ⟨x5,hx5,hh⟩:=bs' hh
 cases hh
 refine L0.intro hC Tryz.func195 rfl rfl rfl (s' rfl rfl (E0.n hC rfl (e' rfl (S' (AEx.draw hC 11 rfl rfl rfl (O' 2 rfl (Qc' (Dz hx1) rfl rfl (Q' rfl (Qc' (Ww hx2) rfl rfl (Q' rfl (Qc' (Nv hx3) rfl rfl (Q' rfl (Qc' (Ds hx4) rfl rfl ?_)))))))))))))
 exact Qc' (Kz hx5) rfl rfl (E' rfl (n' (re' (rt' rfl rfl rfl))))
def T8 (known:List B0)(t:A0)(i:Int):Option (A0×Bool):=
 if (decide (i < ((known).length:Int)))=true then
  idx known i>>=fun x1=>
  if (x1.Name == t.Name)=true then
   idx known i>>=fun x2=>
   some (x2.TypeV,true)
  else
   T8 known t (IntKind.i64.wrap (i+1))
 else
  some ((A0.mk 0 0 0 0 [] [] []),false)
 partial_fixpoint
abbrev Rv (known:List B0)(t:A0)(i:Int)(res:A0×Bool):Prop:=LM C 61 0 Tryz.f220 [1,0,1,2,0,1,4] [(0,.d (.sl (B0.rows known))),(3,.ref 0 0),(4,.ref 1 0),(6,.d (.int .i64 i))] [.row (A0.cells t) 40,.row [.d (.int .i64 0),.d (.int .i64 0),.d (.int .i64 0),.d (.int .i64 0),.d (.str []),.full (estr.rows []),.full (A0.rows [])] 40] (Ret [] (.tup [.agg (A0.cells res.1),.d (.bool res.2)]))
theorem Q16 (known:List B0)(t:A0):(∀ i res,T8 known t i=some res→Rv known t i res):=by
 refine T8.partial_correctness known t _ ?_
 ·intro g0 ih0 i res hh
  refine W0.unroll (S' (p' 2 rfl (qe' rfl trivial (B0.lenA _) (e' rfl (ci' rfl hh (fun hh=>?_) (fun hh=>?_))))))
  ·obtain ⟨x1,hx1,hh⟩:=bs' hh
   refine sk' (S' (bk' (S' (AEx.draw hC 8 rfl rfl rfl (O' 2 rfl (AQ.i hC rfl (U0 hx1) (B0.idx hx1) rfl (E' rfl (n' (ci' rfl hh (fun hh=>?_) (fun hh=>?_))))))))))
   ·obtain ⟨x2,hx2,hh⟩:=bs' hh
    cases hh
    exact p' 2 rfl (i' rfl (U0 hx2) (B0.idx hx2) rfl (o' 2 rfl (E0.s hC rfl (e' rfl (re' (rt' rfl rfl rfl))))))
   exact sk' (T' rfl (lw' (ih0 _ _ hh) rfl rfl rfl))
  cases hh
  exact ex' (p' 1 rfl (E0.s hC rfl (e' rfl (re' (rt' rfl rfl rfl)))))
theorem E19 {known t i res}(hh:T8 known t i=some res):Rv known t i res:=(Q16 known t) _ _ hh
mutual
def Dd (known:List B0)(t:A0):Option (A0×Bool):=
 if (t.Kind == 4)=true then
  T8 known t 0
 else
  Pd known t [] 0
 partial_fixpoint
def Pd (known:List B0)(t:A0)(of:List A0)(i1:Int):Option (A0×Bool):=
 if (decide (i1 < ((t.Of).length:Int)))=true then
  idx t.Of i1>>=fun x3=>
  Dd known x3>>=fun x4=>
  if (!x4.2)=true then
   some ((A0.mk 0 0 0 0 [] [] []),false)
  else
   if (decide ((of.length+1) * 97≤140737488355328))=true then
    Pd known t (of++[x4.1]) (IntKind.i64.wrap (i1+1))
   else none
 else
  some ((A0.mk t.Kind t.Low t.High t.Size t.Name t.Names of),true)
 partial_fixpoint
end
abbrev E11 (known:List B0)(t:A0)(res:A0×Bool):Prop:=L0 C 220 [.d (.sl (B0.rows known)),.agg (A0.cells t)] [] (Ret [] (.tup [.agg (A0.cells res.1),.d (.bool res.2)]))
abbrev E1b (known:List B0)(t:A0)(of:List A0)(i1:Int)(res:A0×Bool):Prop:=LM C 61 0 Tryz.f220 [1,1,1,0,1,4] [(0,.d (.sl (B0.rows known))),(3,.ref 0 0),(4,.ref 1 0),(7,.osl 2 (A0.rows of)),(8,.d (.int .i64 i1))] [.row (A0.cells t) 40,.row [.d (.int .i64 0),.d (.int .i64 0),.d (.int .i64 0),.d (.int .i64 0),.d (.str []),.full (estr.rows []),.full (A0.rows [])] 40,.tok 40 7] (Ret [] (.tup [.agg (A0.cells res.1),.d (.bool res.2)]))
theorem C1e (known:List B0):(∀ t res,Dd known t=some res→E11 known t res)∧(∀ t of i1 res,Pd known t of i1=some res→E1b known t of i1 res):=by
 refine Dd.mutual_partial_correctness known _ _ ?_ ?_
 ·intro g1 ih1 t res hh
  refine L0.intro hC Tryz.func220 rfl rfl rfl (s' rfl rfl (E0.n hC rfl (E0.nf hC rfl (e' rfl (S' (t' rfl (ci' rfl hh (fun hh=>?_) (fun hh=>?_))))))))
  ·exact S' (t' rfl (bk' (fw' (E19 hh) rfl rfl rfl)))
  exact sk' (p' 1 rfl (E0.tokE 7 40 7 rfl (n' (S' (t' rfl (bk' (fw' (ih1 _ _ _ _ hh) rfl rfl rfl)))))))
 ·intro g0 g1 ih0 ih1 t of i1 res hh
  refine W0.unroll (S' (p' 3 rfl (qe' rfl trivial (A0.lenA _) (e' rfl (ci' rfl hh (fun hh=>?_) (fun hh=>?_))))))
  ·obtain ⟨x3,hx3,hh⟩:=bs' hh
   obtain ⟨x4,hx4,hh⟩:=bs' hh
   refine sk' (S' (bk' (p' 4 rfl (i' rfl (U0 hx3) (A0.idx hx3) rfl (q' rfl (c' (ih0 _ _ hx4) rfl rfl (o' 3 rfl (E0.nf hC rfl (E0.s hC rfl (e' rfl (S' (t' rfl (ci' rfl hh (fun hh=>?_) (fun hh=>?_))))))))))))))
   ·cases hh
    exact p' 1 rfl (E0.s hC rfl (e' rfl (re' (rt' rfl rfl rfl))))
   obtain ⟨c7,hh⟩:=G1 hh
   exact sk' (P' 2 rfl (E0.be hC rfl (A0.rows_map [x4.1]).symm (E0.ap hC rfl (rs:=A0.rows (of++[x4.1])) (A0.app of [x4.1]) (A0.sz of) (A0.sz [x4.1]) (X3 (A0.len of) (A0.len [x4.1]) c7) (e' rfl (T' rfl (lw' (ih1 _ _ _ _ hh) rfl rfl rfl))))))
  refine ex' (p' 2 rfl (E0.s hC rfl (n' (p' 1 rfl (E0.s hC rfl (e' rfl (re' ?_)))))))
  obtain rfl:=oi' hh
  exact ⟨_,.tup [.agg [.d (.int .i64 t.Kind),.d (.int .i64 t.Low),.d (.int .i64 t.High),.d (.int .i64 t.Size),.d (.str t.Name),.d (.sl (estr.rows t.Names)),.d (.sl (A0.rows of))],.d (.bool true)],[],rfl,(.tupL ⟨(.aggL ⟨.rfl,.rfl,.rfl,.rfl,.rfl,.rfl,.osl,trivial⟩),.rfl,trivial⟩),trivial,rfl,rfl,rfl,rfl⟩
theorem E1g {known t res}(hh:Dd known t=some res):E11 known t res:=(C1e known).1 _ _ hh
mutual
def Pa (t:A0):Option Bool:=
 if (t.Kind == 3)=true then
  Ta t 0
 else
  Qd t
 partial_fixpoint
def Qd (t:A0):Option Bool:=
 Sd t 0
 partial_fixpoint
def Sd (t:A0)(i2:Int):Option Bool:=
 if (decide (i2 < ((t.Of).length:Int)))=true then
  idx t.Of i2>>=fun x3=>
  Pa x3>>=fun x4=>
  if x4=true then
   some true
  else
   Sd t (IntKind.i64.wrap (i2+1))
 else
  some false
 partial_fixpoint
def Ta (t:A0)(i:Int):Option Bool:=
 if (decide (i < ((t.Names).length:Int)))=true then
  Td t i 0
 else
  Qd t
 partial_fixpoint
def Td (t:A0)(i1:Int)(k:Int):Option Bool:=
 if (decide (k < i1))=true then
  idx t.Names i1>>=fun x1=>
  idx t.Names k>>=fun x2=>
  if (x1 == x2)=true then
   some true
  else
   Td t i1 (IntKind.i64.wrap (k+1))
 else
  Ta t (IntKind.i64.wrap (i1+1))
 partial_fixpoint
end
abbrev F11 (t:A0)(res:Bool):Prop:=L0 C 197 [.agg (A0.cells t)] [] (Ret [] (.d (.bool res)))
abbrev F1b (t:A0)(res:Bool):Prop:=JM C 45 0 Tryz.f197 [1,1] [(1,.ref 0 0)] [.row (A0.cells t) 40] (Ret [] (.d (.bool res)))
abbrev G1b (t:A0)(i2:Int)(res:Bool):Prop:=LM C 45 0 Tryz.f197 [1,1,0,1,4] [(1,.ref 0 0),(5,.d (.int .i64 i2))] [.row (A0.cells t) 40] (Ret [] (.d (.bool res)))
abbrev H1b (t:A0)(i:Int)(res:Bool):Prop:=LM C 45 0 Tryz.f197 [1,0,1,2,1,4] [(1,.ref 0 0),(3,.d (.int .i64 i))] [.row (A0.cells t) 40] (Ret [] (.d (.bool res)))
abbrev I1b (t:A0)(i1:Int)(k:Int)(res:Bool):Prop:=LM C 45 0 Tryz.f197 [1,0,1,2,1,4,5,1,0,4,1,4] [(1,.ref 0 0),(3,.d (.int .i64 i1)),(4,.d (.int .i64 k))] [.row (A0.cells t) 40] (Ret [] (.d (.bool res)))
theorem D1e:(∀ t res,Pa t=some res→F11 t res)∧(∀ t res,Qd t=some res→F1b t res)∧(∀ t i2 res,Sd t i2=some res→G1b t i2 res)∧(∀ t i res,Ta t i=some res→H1b t i res)∧(∀ t i1 k res,Td t i1 k=some res→I1b t i1 k res):=by
 refine Pa.mutual_partial_correctness _ _ _ _ _ ?_ ?_ ?_ ?_ ?_
 ·intro g1 g3 ih1 ih3 t res hh
  refine L0.intro hC Tryz.func197 rfl rfl rfl (s' rfl rfl (E0.n hC rfl (e' rfl (S' (t' rfl (ci' rfl hh (fun hh=>?_) (fun hh=>?_)))))))
  ·exact t' rfl (bk' (fw' (ih3 _ _ _ hh) rfl rfl rfl))
  exact sk' (ew' (ih1 _ _ hh) rfl rfl rfl)
 ·intro g2 ih2 t res hh
  exact S' (t' rfl (bk' (fw' (ih2 _ _ _ hh) rfl rfl rfl)))
 ·intro g0 g2 ih0 ih2 t i2 res hh
  refine W0.unroll (S' (p' 3 rfl (qe' rfl trivial (A0.lenA _) (e' rfl (ci' rfl hh (fun hh=>?_) (fun hh=>?_))))))
  ·obtain ⟨x3,hx3,hh⟩:=bs' hh
   obtain ⟨x4,hx4,hh⟩:=bs' hh
   refine sk' (S' (bk' (p' 3 rfl (i' rfl (U0 hx3) (A0.idx hx3) rfl (q' rfl (c' (ih0 _ _ hx4) rfl rfl (n' (ci' rfl hh (fun hh=>?_) (fun hh=>?_)))))))))
   ·cases hh
    exact t' rfl (re' (rt' rfl rfl rfl))
   exact sk' (T' rfl (lw' (ih2 _ _ _ hh) rfl rfl rfl))
  cases hh
  exact ex' (t' rfl (re' (rt' rfl rfl rfl)))
 ·intro g1 g4 ih1 ih4 t i res hh
  refine W0.unroll (S' (p' 3 rfl (qe' rfl trivial (estr.lenA _) (e' rfl (ci' rfl hh (fun hh=>?_) (fun hh=>?_))))))
  ·exact sk' (S' (bk' (t' rfl (bk' (fw' (ih4 _ _ _ _ hh) rfl rfl rfl)))))
  exact ex' (ew' (ih1 _ _ hh) rfl rfl rfl)
 ·intro g3 g4 ih3 ih4 t i1 k res hh
  refine W0.unroll (S' (t' rfl (ci' rfl hh (fun hh=>?_) (fun hh=>?_))))
  ·obtain ⟨x1,hx1,hh⟩:=bs' hh
   obtain ⟨x2,hx2,hh⟩:=bs' hh
   refine sk' (S' (bk' (S' (AEx.draw hC 11 rfl rfl rfl (O' 3 rfl (AQ.i hC rfl (U0 hx1) (estr.idx hx1) rfl (O' 4 rfl (AQ.i hC rfl (U0 hx2) (estr.idx hx2) rfl (E' rfl (n' (ci' rfl hh (fun hh=>?_) (fun hh=>?_))))))))))))
   ·cases hh
    exact t' rfl (re' (rt' rfl rfl rfl))
   exact sk' (T' rfl (lw' (ih4 _ _ _ _ hh) rfl rfl rfl))
  exact ex' (T' rfl (lw' (ih3 _ _ _ hh) rfl rfl rfl))
theorem Nz {t res}(hh:Pa t=some res):F11 t res:=(D1e).1 _ _ hh
mutual
def Kg (t:A0):Option Int:=
 Ud t 0 0
 partial_fixpoint
def Ud (t:A0)(d:Int)(i:Int):Option Int:=
 if (decide (i < ((t.Of).length:Int)))=true then
  idx t.Of i>>=fun x1=>
  Kg x1>>=fun x2=>
  if (decide (x2 > d))=true then
   Ud t x2 (IntKind.i64.wrap (i+1))
  else
   Ud t d (IntKind.i64.wrap (i+1))
 else
  some (IntKind.i64.wrap (d+1))
 partial_fixpoint
end
abbrev N17 (t:A0)(res:Int):Prop:=L0 C 221 [.agg (A0.cells t)] [] (Ret [] (.d (.int .i64 res)))
abbrev F1g (t:A0)(d:Int)(i:Int)(res:Int):Prop:=LM C 25 0 Tryz.f221 [1,1,0,1,4] [(1,.ref 0 0),(3,.d (.int .i64 d)),(4,.d (.int .i64 i))] [.row (A0.cells t) 40] (Ret [] (.d (.int .i64 res)))
theorem I1j:(∀ t res,Kg t=some res→N17 t res)∧(∀ t d i res,Ud t d i=some res→F1g t d i res):=by
 refine Kg.mutual_partial_correctness _ _ ?_ ?_
 ·intro g1 ih1 t res hh
  exact L0.intro hC Tryz.func221 rfl rfl rfl (s' rfl rfl (E0.n hC rfl (e' rfl (t' rfl (S' (t' rfl (bk' (fw' (ih1 _ _ _ _ hh) rfl rfl rfl))))))))
 ·intro g0 g1 ih0 ih1 t d i res hh
  refine W0.unroll (S' (p' 3 rfl (qe' rfl trivial (A0.lenA _) (e' rfl (ci' rfl hh (fun hh=>?_) (fun hh=>?_))))))
  ·obtain ⟨x1,hx1,hh⟩:=bs' hh
   obtain ⟨x2,hx2,hh⟩:=bs' hh
   refine sk' (S' (bk' (p' 3 rfl (i' rfl (U0 hx1) (A0.idx hx1) rfl (q' rfl (c' (ih0 _ _ hx2) rfl rfl (e' rfl (t' rfl (ci' rfl hh (fun hh=>?_) (fun hh=>?_))))))))))
   ·exact T' rfl (T' rfl (lw' (ih1 _ _ _ _ hh) rfl rfl rfl))
   exact sk' (T' rfl (lw' (ih1 _ _ _ _ hh) rfl rfl rfl))
  cases hh
  exact ex' (t' rfl (re' (rt' rfl rfl rfl)))
theorem M1l {t res}(hh:Kg t=some res):N17 t res:=(I1j).1 _ _ hh
mutual
def Xb (t:A0):Option Int:=
 if (t.Kind == 2)=true then
  idx t.Of 0>>=fun x1=>
  Xb x1>>=fun x3=>
  Tg t (IntKind.i64.wrap (t.Size * x3))
 else
  Tg t 1
 partial_fixpoint
def Tg (t:A0)(n:Int):Option Int:=
 if (t.Kind == 3)=true then
  Ug t 0 0
 else
  if (decide (n > 32))=true then
   some 33
  else
   some n
 partial_fixpoint
def Ug (t:A0)(n1:Int)(i:Int):Option Int:=
 if (decide (i < ((t.Of).length:Int)))=true then
  idx t.Of i>>=fun x2=>
  Xb x2>>=fun x4=>
  Ug t (IntKind.i64.wrap (n1+x4)) (IntKind.i64.wrap (i+1))
 else
  if (decide (n1 > 32))=true then
   some 33
  else
   some n1
 partial_fixpoint
end
abbrev O17 (t:A0)(res:Int):Prop:=L0 C 198 [.agg (A0.cells t)] [] (Ret [] (.d (.int .i64 res)))
abbrev G1g (t:A0)(n:Int)(res:Int):Prop:=JM C 37 0 Tryz.f198 [1,1,1] [(1,.ref 0 0),(3,.d (.int .i64 n))] [.row (A0.cells t) 40] (Ret [] (.d (.int .i64 res)))
abbrev H1g (t:A0)(n1:Int)(i:Int)(res:Int):Prop:=LM C 37 0 Tryz.f198 [1,1,1,0,1,2,1,1,4] [(1,.ref 0 0),(3,.d (.int .i64 n1)),(4,.d (.int .i64 i))] [.row (A0.cells t) 40] (Ret [] (.d (.int .i64 res)))
theorem J1j:(∀ t res,Xb t=some res→O17 t res)∧(∀ t n res,Tg t n=some res→G1g t n res)∧(∀ t n1 i res,Ug t n1 i=some res→H1g t n1 i res):=by
 refine Xb.mutual_partial_correctness _ _ _ ?_ ?_ ?_
 ·intro g0 g1 ih0 ih1 t res hh
  refine L0.intro hC Tryz.func198 rfl rfl rfl (s' rfl rfl (E0.n hC rfl (e' rfl (t' rfl (S' (t' rfl (ci' rfl hh (fun hh=>?_) (fun hh=>?_))))))))
  ·obtain ⟨x1,hx1,hh⟩:=bs' hh
   obtain ⟨x3,hx3,hh⟩:=bs' hh
   exact AEx.draw hC 9 rfl rfl rfl (O' 4 rfl (AQ.i hC rfl (U0 hx1) (A0.idx hx1) rfl (Q' rfl (Qc' (ih0 _ _ hx3) rfl rfl (E' rfl (n' (ew' (ih1 _ _ _ hh) rfl rfl rfl)))))))
  exact sk' (ew' (ih1 _ _ _ hh) rfl rfl rfl)
 ·intro g2 ih2 t n res hh
  refine S' (t' rfl (ci' rfl hh (fun hh=>?_) (fun hh=>?_)))
  ·exact t' rfl (t' rfl (bk' (fw' (ih2 _ _ _ _ hh) rfl rfl rfl)))
  refine sk' (S' (t' rfl (ci' rfl hh (fun hh=>?_) (fun hh=>?_))))
  ·cases hh
   exact t' rfl (re' (rt' rfl rfl rfl))
  cases hh
  exact sk' (t' rfl (re' (rt' rfl rfl rfl)))
 ·intro g0 g2 ih0 ih2 t n1 i res hh
  refine W0.unroll (S' (p' 3 rfl (qe' rfl trivial (A0.lenA _) (e' rfl (ci' rfl hh (fun hh=>?_) (fun hh=>?_))))))
  ·obtain ⟨x2,hx2,hh⟩:=bs' hh
   obtain ⟨x4,hx4,hh⟩:=bs' hh
   exact sk' (S' (bk' (P' 4 rfl (i' rfl (U0 hx2) (A0.idx hx2) rfl (q' rfl (c' (ih0 _ _ hx4) rfl rfl (e' rfl (T' rfl (lw' (ih2 _ _ _ _ hh) rfl rfl rfl)))))))))
  refine ex' (S' (t' rfl (ci' rfl hh (fun hh=>?_) (fun hh=>?_))))
  ·cases hh
   exact t' rfl (re' (rt' rfl rfl rfl))
  cases hh
  exact sk' (t' rfl (re' (rt' rfl rfl rfl)))
theorem J14 {t res}(hh:Xb t=some res):O17 t res:=(J1j).1 _ _ hh
def Gh (known:List B0)(t:A0):Option (A0×Int):=
 Df t>>=fun x1=>
 if (x1 != 0)=true then
  some ((A0.mk 0 0 0 0 [] [] []),x1)
 else
  Dd known t>>=fun x2=>
  if (!x2.2)=true then
   some ((A0.mk 0 0 0 0 [] [] []),7)
  else
   Pa x2.1>>=fun x3=>
   if x3=true then
    some ((A0.mk 0 0 0 0 [] [] []),8)
   else
    Kg x2.1>>=fun x4=>
    (if (!(decide (x4 > 12)))=true then Xb x2.1 else some default)>>=fun x5=>
    if (bif (decide (x4 > 12)) then true else (decide (x5 > 32)))=true then
     some ((A0.mk 0 0 0 0 [] [] []),4)
    else
     some (x2.1,0)
theorem G11 {known t res}(hh:Gh known t=some res):L0 C 193 [.d (.sl (B0.rows known)),.agg (A0.cells t)] [] (Ret [] (.tup [.agg (A0.cells res.1),.d (.int .i64 res.2)])):=by
 unfold Gh at hh
 obtain ⟨x1,hx1,hh⟩:=bs' hh
 refine L0.intro hC Tryz.func193 rfl rfl rfl (s' rfl rfl (E0.n hC rfl (E0.nf hC rfl (e' rfl (p' 1 rfl (c' (Qv hx1) rfl rfl (e' rfl (S' (t' rfl (ci' rfl hh (fun hh=>?_) (fun hh=>?_)))))))))))
 ·cases hh
  exact p' 2 rfl (E0.s hC rfl (e' rfl (re' (rt' rfl rfl rfl))))
 obtain ⟨x2,hx2,hh⟩:=bs' hh
 refine sk' (p' 2 rfl (c' (E1g hx2) rfl rfl (o' 3 rfl (E0.nf hC rfl (E0.s hC rfl (e' rfl (S' (t' rfl (ci' rfl hh (fun hh=>?_) (fun hh=>?_))))))))))
 ·cases hh
  exact p' 1 rfl (E0.s hC rfl (e' rfl (re' (rt' rfl rfl rfl))))
 obtain ⟨x3,hx3,hh⟩:=bs' hh
 refine sk' (S' (p' 1 rfl (c' (Nz hx3) rfl rfl (n' (ci' rfl hh (fun hh=>?_) (fun hh=>?_))))))
 ·cases hh
  exact p' 1 rfl (E0.s hC rfl (e' rfl (re' (rt' rfl rfl rfl))))
 obtain ⟨x4,hx4,hh⟩:=bs' hh
 obtain ⟨x5,hx5,hh⟩:=bs' hh
 refine sk' (S' (sg' 8 rfl (a0' rfl (AG.c rfl rfl (fun _=>trivial) (fun _=>M1l hx4) (G' 3 rfl (AG.c rfl rfl (fun hg=>⟨hg,trivial⟩) (fun hw=>J14 (I1 hw hx5)) (a1' rfl (po' rfl (an' (n' (ci' rfl hh (fun hh=>?_) (fun hh=>?_))))))))))))
 ·cases hh
  exact p' 1 rfl (E0.s hC rfl (e' rfl (re' (rt' rfl rfl rfl))))
 cases hh
 exact sk' (p' 1 rfl (E0.s hC rfl (e' rfl (re' (rt' rfl rfl rfl)))))
mutual
def Y5 (decls:List B0)(known:List B0)(i:Int):Option (List B0×Int):=
 if (decide (i < ((decls).length:Int)))=true then
  idx decls i>>=fun x1=>
  if (x1.Kind != 0)=true then
   Y5 decls known (IntKind.i64.wrap (i+1))
  else
   Ka x1.Name>>=fun x2=>
   if (!x2)=true then
    some ([],7)
   else
    Vg decls x1 known i 0
 else
  some (known,0)
 partial_fixpoint
def Vg (decls:List B0)(x1:B0)(known1:List B0)(i:Int)(k:Int):Option (List B0×Int):=
 if (decide (k < ((known1).length:Int)))=true then
  idx known1 k>>=fun x4=>
  if (x4.Name == x1.Name)=true then
   some ([],8)
  else
   Vg decls x1 known1 i (IntKind.i64.wrap (k+1))
 else
  Gh known1 x1.TypeV>>=fun x3=>
  if (x3.2 != 0)=true then
   some ([],x3.2)
  else
   if (decide ((known1.length+1) * 257≤140737488355328))=true then
    Y5 decls (known1++[(B0.mk 0 x1.Name x3.1 0 (D0.mk 0 0 [] []) [] [] [])]) (IntKind.i64.wrap (i+1))
   else none
 partial_fixpoint
end
abbrev Oz (decls:List B0)(known:List B0)(i:Int)(res:List B0×Int):Prop:=LM C 59 0 Tryz.f192 [1,1,0,1,4] [(0,.d (.sl (B0.rows decls))),(4,.osl 0 (B0.rows known)),(5,.d (.int .i64 i))] [.tok 59 17] (Ret [] (.tup [.d (.sl (B0.rows res.1)),.d (.int .i64 res.2)]))
abbrev I1g (decls:List B0)(x1:B0)(known1:List B0)(i:Int)(k:Int)(res:List B0×Int):Prop:=LM C 59 0 Tryz.f192 [1,1,0,1,4,5,1,0,4,1,1,1,0,1,4] [(0,.d (.sl (B0.rows decls))),(4,.osl 0 (B0.rows known1)),(5,.d (.int .i64 i)),(6,.ref 1 0),(7,.d (.int .i64 k))] [.tok 59 17,.row (B0.cells x1) 59] (Ret [] (.tup [.d (.sl (B0.rows res.1)),.d (.int .i64 res.2)]))
theorem J1b (decls:List B0):(∀ known i res,Y5 decls known i=some res→Oz decls known i res)∧(∀ x1 known1 i k res,Vg decls x1 known1 i k=some res→I1g decls x1 known1 i k res):=by
 refine Y5.mutual_partial_correctness decls _ _ ?_ ?_
 ·intro g0 g1 ih0 ih1 known i res hh
  refine W0.unroll (S' (p' 2 rfl (qe' rfl trivial (B0.lenA _) (e' rfl (ci' rfl hh (fun hh=>?_) (fun hh=>?_))))))
  ·obtain ⟨x1,hx1,hh⟩:=bs' hh
   refine sk' (S' (bk' (p' 2 rfl (i' rfl (U0 hx1) (B0.idx hx1) rfl (q' rfl (E0.nf hC rfl (E0.s hC rfl (n' (S' (t' rfl (ci' rfl hh (fun hh=>?_) (fun hh=>?_))))))))))))
   ·exact ex' (T' rfl (lw' (ih0 _ _ _ hh) rfl rfl rfl))
   obtain ⟨x2,hx2,hh⟩:=bs' hh
   refine sk' (S' (p' 2 rfl (c' (Cf hx2) rfl rfl (e' rfl (ci' rfl hh (fun hh=>?_) (fun hh=>?_))))))
   ·refine t' rfl (re' ?_)
    obtain rfl:=oi' hh
    exact ⟨_,.tup [.d (.sl (B0.rows [])),.d (.int .i64 7)],[],rfl,(.tupL ⟨.full,.rfl,trivial⟩),trivial,rfl,rfl,rfl,rfl⟩
   exact sk' (S' (t' rfl (bk' (fw' (ih1 _ _ _ _ _ hh) rfl rfl rfl))))
  refine ex' (t' rfl (re' ?_))
  obtain rfl:=oi' hh
  exact ⟨_,.tup [.d (.sl (B0.rows known)),.d (.int .i64 0)],[],rfl,(.tupL ⟨.osl,.rfl,trivial⟩),trivial,rfl,rfl,rfl,rfl⟩
 ·intro g0 g1 ih0 ih1 x1 known1 i k res hh
  refine W0.unroll (S' (p' 2 rfl (qe' rfl trivial (B0.lenA _) (e' rfl (ci' rfl hh (fun hh=>?_) (fun hh=>?_))))))
  ·obtain ⟨x4,hx4,hh⟩:=bs' hh
   refine sk' (S' (bk' (S' (AEx.draw hC 8 rfl rfl rfl (O' 2 rfl (AQ.i hC rfl (U0 hx4) (B0.idx hx4) rfl (E' rfl (n' (ci' rfl hh (fun hh=>?_) (fun hh=>?_))))))))))
   ·refine t' rfl (re' ?_)
    obtain rfl:=oi' hh
    exact ⟨_,.tup [.d (.sl (B0.rows [])),.d (.int .i64 8)],[],rfl,(.tupL ⟨.full,.rfl,trivial⟩),trivial,rfl,rfl,rfl,rfl⟩
   exact sk' (T' rfl (lw' (ih1 _ _ _ _ _ hh) rfl rfl rfl))
  obtain ⟨x3,hx3,hh⟩:=bs' hh
  refine ex' (p' 3 rfl (E0.cl rfl (G11 hx3) ⟨.osl,.rfl,trivial⟩ rfl (o' 3 rfl (E0.nf hC rfl (E0.s hC rfl (e' rfl (S' (t' rfl (ci' rfl hh (fun hh=>?_) (fun hh=>?_))))))))))
  ·refine t' rfl (re' ?_)
   obtain rfl:=oi' hh
   exact ⟨_,.tup [.d (.sl (B0.rows [])),.d (.int .i64 x3.2)],[],rfl,(.tupL ⟨.full,.rfl,trivial⟩),trivial,rfl,rfl,rfl,rfl⟩
  obtain ⟨c8,hh⟩:=G1 hh
  refine sk' (P' 5 rfl (E0.be hC rfl (B0.rows_map [(B0.mk 0 x1.Name x3.1 0 (D0.mk 0 0 [] []) [] [] [])]).symm ?_))
  refine E0.ap hC rfl (rs:=B0.rows (known1++[(B0.mk 0 x1.Name x3.1 0 (D0.mk 0 0 [] []) [] [] [])])) (B0.app known1 [(B0.mk 0 x1.Name x3.1 0 (D0.mk 0 0 [] []) [] [] [])]) (B0.sz known1) (B0.sz [(B0.mk 0 x1.Name x3.1 0 (D0.mk 0 0 [] []) [] [] [])]) (X3 (B0.len known1) (B0.len [(B0.mk 0 x1.Name x3.1 0 (D0.mk 0 0 [] []) [] [] [])]) c8) ?_
  exact e' rfl (T' rfl (lw' (ih0 _ _ _ hh) rfl rfl rfl))
theorem E1e {decls known i res}(hh:Y5 decls known i=some res):Oz decls known i res:=(J1b decls).1 _ _ _ hh
def Ru (decls:List B0):Option (List B0×Int):=
 Y5 decls [] 0
theorem N1l {decls res}(hh:Ru decls=some res):L0 C 192 [.d (.sl (B0.rows decls))] [] (Ret [] (.tup [.d (.sl (B0.rows res.1)),.d (.int .i64 res.2)])):=by
 unfold Ru at hh
 exact L0.intro hC Tryz.func192 rfl rfl rfl (t' rfl (p' 1 rfl (E0.tokE 4 59 17 rfl (n' (S' (t' rfl (bk' (fw' (E1e hh) rfl rfl rfl))))))))
def Un (decls:List B0)(t:A0):Option (A0×Int):=
 Ru decls>>=fun x1=>
 if (x1.2 != 0)=true then
  some ((A0.mk 0 0 0 0 [] [] []),x1.2)
 else
  Gh x1.1 t>>=fun x2=>
  some (x2.1,x2.2)
theorem K1j {decls t res}(hh:Un decls t=some res):L0 C 137 [.d (.sl (B0.rows decls)),.agg (A0.cells t)] [] (Ret [] (.tup [.agg (A0.cells res.1),.d (.int .i64 res.2)])):=by
 unfold Un at hh
 obtain ⟨x1,hx1,hh⟩:=bs' hh
 refine L0.intro hC Tryz.func137 rfl rfl rfl (s' rfl rfl (E0.n hC rfl (E0.nf hC rfl (e' rfl (p' 1 rfl (c' (N1l hx1) rfl rfl (e' rfl (S' (t' rfl (ci' rfl hh (fun hh=>?_) (fun hh=>?_)))))))))))
 ·cases hh
  exact p' 2 rfl (E0.s hC rfl (e' rfl (re' (rt' rfl rfl rfl))))
 obtain ⟨x2,hx2,hh⟩:=bs' hh
 cases hh
 exact sk' (p' 2 rfl (c' (G11 hx2) rfl rfl (o' 2 rfl (E0.s hC rfl (e' rfl (re' (rt' rfl rfl rfl)))))))
def U8 (p:F0)(i:Int)(t:A0):Option (A0×Int):=
 slc p.Decls 0 i>>=fun x1=>
 Un x1 t>>=fun x2=>
 some (x2.1,x2.2)
theorem Hc {p i t res}(hh:U8 p i t=some res):L0 C 74 [.agg (F0.cells p),.d (.int .i64 i),.agg (A0.cells t)] [] (Ret [] (.tup [.agg (A0.cells res.1),.d (.int .i64 res.2)])):=by
 unfold U8 at hh
 obtain ⟨x1,hx1,hh⟩:=bs' hh
 obtain ⟨x2,hx2,hh⟩:=bs' hh
 cases hh
 refine L0.intro hC Tryz.func74 rfl rfl rfl (s' rfl rfl (E0.n hC rfl (E0.n hC rfl (E0.nf hC rfl (e' rfl (S' (AEx.draw hC 8 rfl rfl rfl (O' 3 rfl (AQ.dx hC rfl (B0.part hx1) (B0.sz _) (Q' rfl (Qc' (K1j hx2) rfl rfl (E' rfl (E0.s hC rfl ?_)))))))))))))
 exact e' rfl (re' (rt' rfl rfl rfl))
def X6 (t:A0):Option Bool:=
 some (bif (t.Kind == 0) then true else (t.Kind == 1))
theorem Ri {t res}(hh:X6 t=some res):L0 C 75 [.agg (A0.cells t)] [] (Ret [] (.d (.bool res))):=by
 unfold X6 at hh
 cases hh
 exact L0.intro hC Tryz.func75 rfl rfl rfl (s' rfl rfl (E0.n hC rfl (e' rfl (sg' 9 rfl (G' 5 rfl (a1' rfl (a1' rfl (po' rfl (a0' rfl (an' (n' (re' (rt' rfl rfl rfl)))))))))))))
def Kf (d:B0):Option Bool:=
 some (bif (bif (d.Kind == 1) then true else (d.Kind == 2)) then true else (d.Kind == 3))
theorem Lq {d res}(hh:Kf d=some res):L0 C 80 [.agg (B0.cells d)] [] (Ret [] (.d (.bool res))):=by
 unfold Kf at hh
 cases hh
 refine L0.intro hC Tryz.func80 rfl rfl rfl (s' rfl rfl (E0.n hC rfl (e' rfl (sg' 14 rfl (G' 5 rfl (a1' rfl (a1' rfl (po' rfl (G' 2 rfl (a1' rfl (a1' rfl (po' rfl (a0' rfl ?_)))))))))))))
 exact an' (n' (re' (rt' rfl rfl rfl)))
def V6 (p:F0)(n:Int)(locals:Bool)(out:List J0)(i:Int):Option (List J0):=
 if (decide (i < n))=true then
  idx p.Decls i>>=fun x1=>
  Kf x1>>=fun x2=>
  if (bif x2 then true else (bif locals then (x1.Kind == 4) else false))=true then
   U8 p i x1.TypeV>>=fun x3=>
   Kf x1>>=fun x4=>
   if (decide ((out.length+1) * 121≤140737488355328))=true then
    V6 p n locals (out++[(J0.mk x1.Name x3.1 x4)]) (IntKind.i64.wrap (i+1))
   else none
  else
   V6 p n locals out (IntKind.i64.wrap (i+1))
 else
  some out
 partial_fixpoint
abbrev Sv (p:F0)(n:Int)(locals:Bool)(out:List J0)(i:Int)(res:List J0):Prop:=LM C 51 0 Tryz.f77 [1,1,0,1,4] [(1,.d (.int .i64 n)),(2,.d (.bool locals)),(3,.ref 0 0),(7,.osl 1 (J0.rows out)),(8,.d (.int .i64 i))] [.row (F0.cells p) 25,.tok 146 9] (Ret [] (.d (.sl (J0.rows res))))
theorem R16 (p:F0)(n:Int)(locals:Bool):(∀ out i res,V6 p n locals out i=some res→Sv p n locals out i res):=by
 refine V6.partial_correctness p n locals _ ?_
 ·intro g0 ih0 out i res hh
  refine W0.unroll (S' (t' rfl (ci' rfl hh (fun hh=>?_) (fun hh=>?_))))
  ·obtain ⟨x1,hx1,hh⟩:=bs' hh
   obtain ⟨x2,hx2,hh⟩:=bs' hh
   refine sk' (S' (bk' (p' 3 rfl (i' rfl (U0 hx1) (B0.idx hx1) rfl (q' rfl (E0.nf hC rfl (E0.s hC rfl (n' (sg' 10 rfl (a0' rfl (AG.c rfl rfl (fun _=>trivial) (fun _=>Lq hx2) (G' 2 rfl (a1' rfl ?_)))))))))))))
   refine a0' rfl (a1' rfl (a1' rfl (pA' rfl (po' rfl (an' (n' (ci' rfl hh (fun hh=>?_) (fun hh=>?_))))))))
   ·obtain ⟨x3,hx3,hh⟩:=bs' hh
    obtain ⟨x4,hx4,hh⟩:=bs' hh
    obtain ⟨c8,hh⟩:=G1 hh
    refine p' 4 rfl (c' (Hc hx3) rfl rfl (o' 3 rfl (E0.nf hC rfl (E0.s hC rfl (e' rfl (AEx.draw hC 8 rfl rfl rfl (O' 5 rfl (Qc' (Lq hx4) rfl rfl (Q' rfl (AQ.be hC rfl (J0.rows_map [(J0.mk x1.Name x3.1 x4)]).symm (Qn' ?_)))))))))))
    exact E0.ap hC rfl (rs:=J0.rows (out++[(J0.mk x1.Name x3.1 x4)])) (J0.app out [(J0.mk x1.Name x3.1 x4)]) (J0.sz out) (J0.sz [(J0.mk x1.Name x3.1 x4)]) (X3 (J0.len out) (J0.len [(J0.mk x1.Name x3.1 x4)]) c8) (e' rfl (T' rfl (lw' (ih0 _ _ _ hh) rfl rfl rfl)))
   exact sk' (T' rfl (lw' (ih0 _ _ _ hh) rfl rfl rfl))
  refine ex' (t' rfl (re' ?_))
  obtain rfl:=oi' hh
  exact ⟨_,.d (.sl (J0.rows out)),[],rfl,.osl,trivial,rfl,rfl,rfl,rfl⟩
theorem F19 {p n locals out i res}(hh:V6 p n locals out i=some res):Sv p n locals out i res:=(R16 p n locals) _ _ _ hh
def Zl (p:F0)(n:Int)(locals:Bool):Option (List J0):=
 V6 p n locals [] 0
theorem Pz {p n locals res}(hh:Zl p n locals=some res):L0 C 77 [.agg (F0.cells p),.d (.int .i64 n),.d (.bool locals)] [] (Ret [] (.d (.sl (J0.rows res)))):=by
 unfold Zl at hh
 exact L0.intro hC Tryz.func77 rfl rfl rfl (s' rfl rfl (E0.n hC rfl (e' rfl (s' rfl rfl (E0.be hC rfl (J0.rows_map []).symm (E0.tokE 12 146 9 rfl (e' rfl (S' (t' rfl (bk' (fw' (F19 hh) rfl rfl rfl)))))))))))
end Go.Proofs.YtdkabnfphmmmnaaGreatDoor

set_option maxRecDepth 100000
set_option maxHeartbeats 4000000
set_option synthInstance.maxSize 20000
set_option linter.unusedVariables false
namespace Go.Proofs.YtdkabnfphmmmnaaGreatDoor
open Go.Am
def C4 (low:Int)(high:Int):Option A0:=
 some (A0.mk 1 low high 0 [] [] [])
theorem Z5 {low high res}(hh:C4 low high=some res):L0 C 94 [.d (.int .i64 low),.d (.int .i64 high)] [] (Ret [] (.agg (A0.cells res))):=by
 unfold C4 at hh
 cases hh
 exact L0.intro hC Tryz.func94 rfl rfl rfl (s' rfl rfl (E0.nf hC rfl (n' (p' 3 rfl (E0.s hC rfl (n' (re' (rt' rfl rfl rfl))))))))
def Ed (s:T0)(name:Str)(i:Int):Option (J0×Bool):=
 if (decide (i≥0))=true then
  idx s.Vars i>>=fun x1=>
  if (x1.Name == name)=true then
   idx s.Vars i>>=fun x2=>
   some (x2,true)
  else
   Ed s name (IntKind.i64.wrap (i - 1))
 else
  some ((J0.mk [] (A0.mk 0 0 0 0 [] [] []) false),false)
 partial_fixpoint
abbrev H11 (s:T0)(name:Str)(i:Int)(res:J0×Bool):Prop:=LM C 29 0 Tryz.f95 [1,0,1,4] [(1,.d (.str name)),(2,.ref 0 0),(4,.ref 1 0),(6,.d (.int .i64 i))] [.row (T0.cells s) 78,.row [.d (.str []),.d (.int .i64 0),.d (.int .i64 0),.d (.int .i64 0),.d (.int .i64 0),.d (.str []),.full (estr.rows []),.full (A0.rows []),.d (.bool false)] 146] (Ret [] (.tup [.agg (J0.cells res.1),.d (.bool res.2)]))
theorem F1e (s:T0)(name:Str):(∀ i res,Ed s name i=some res→H11 s name i res):=by
 refine Ed.partial_correctness s name _ ?_
 ·intro g0 ih0 i res hh
  refine W0.unroll (S' (t' rfl (ci' rfl hh (fun hh=>?_) (fun hh=>?_))))
  ·obtain ⟨x1,hx1,hh⟩:=bs' hh
   refine sk' (S' (bk' (p' 3 rfl (i' rfl (U0 hx1) (J0.idx hx1) rfl (e' rfl (ci' rfl hh (fun hh=>?_) (fun hh=>?_)))))))
   ·obtain ⟨x2,hx2,hh⟩:=bs' hh
    cases hh
    exact p' 3 rfl (i' rfl (U0 hx2) (J0.idx hx2) rfl (q' rfl (E0.s hC rfl (e' rfl (re' (rt' rfl rfl rfl))))))
   exact sk' (T' rfl (lw' (ih0 _ _ hh) rfl rfl rfl))
  cases hh
  exact ex' (p' 1 rfl (E0.s hC rfl (e' rfl (re' (rt' rfl rfl rfl)))))
theorem J1g {s name i res}(hh:Ed s name i=some res):H11 s name i res:=(F1e s name) _ _ hh
def Bg (s:T0)(name:Str):Option (J0×Bool):=
 Ed s name (IntKind.i64.wrap (((s.Vars).length:Int) - 1))
theorem P17 {s name res}(hh:Bg s name=some res):L0 C 95 [.agg (T0.cells s),.d (.str name)] [] (Ret [] (.tup [.agg (J0.cells res.1),.d (.bool res.2)])):=by
 unfold Bg at hh
 exact L0.intro hC Tryz.func95 rfl rfl rfl (s' rfl rfl (E0.n hC rfl (E0.nf hC rfl (e' rfl (S' (p' 2 rfl (qe' rfl trivial (J0.lenA _) (e' rfl (bk' (fw' (J1g hh) rfl rfl rfl))))))))))
def W8 (e:D0)(k:List A0)(i1:Int):Option (A0×Int):=
 idx k 0>>=fun x10=>
 if (decide (i1 < ((x10.Names).length:Int)))=true then
  idx k 0>>=fun x11=>
  idx x11.Names i1>>=fun x12=>
  if (x12 == e.Name)=true then
   idx k 0>>=fun x13=>
   idx x13.Of i1>>=fun x14=>
   some (x14,0)
  else
   W8 e k (IntKind.i64.wrap (i1+1))
 else
  some ((A0.mk 0 0 0 0 [] [] []),7)
 partial_fixpoint
abbrev I11 (e:D0)(k:List A0)(i1:Int)(res:A0×Int):Prop:=LM C 135 0 Tryz.f44 [1,1,1,1,1,1,0,1,2,1,0,1,4] [(3,.ref 1 0),(4,.ref 2 0),(6,.osl 3 (A0.rows k)),(12,.d (.int .i64 i1))] [.dead,.row (D0.cells e) 34,.row [.d (.int .i64 0),.d (.int .i64 0),.d (.int .i64 0),.d (.int .i64 0),.d (.str []),.full (estr.rows []),.full (A0.rows [])] 40,.tok 40 7] (Ret [] (.tup [.agg (A0.cells res.1),.d (.int .i64 res.2)]))
theorem G1e (e:D0)(k:List A0):(∀ i1 res,W8 e k i1=some res→I11 e k i1 res):=by
 refine W8.partial_correctness e k _ ?_
 ·intro g0 ih0 i1 res hh
  obtain ⟨x10,hx10,hh⟩:=bs' hh
  refine W0.unroll (S' (p' 2 rfl (i' rfl (U0 hx10) (A0.idx hx10) rfl (o' 2 rfl (qe' rfl trivial (estr.lenA _) (e' rfl (ci' rfl hh (fun hh=>?_) (fun hh=>?_))))))))
  ·obtain ⟨x11,hx11,hh⟩:=bs' hh
   obtain ⟨x12,hx12,hh⟩:=bs' hh
   refine sk' (S' (bk' (S' (AEx.draw hC 10 rfl rfl rfl (Q' rfl (AQ.i hC rfl (U0 hx11) (A0.idx hx11) rfl (O' 3 rfl (AQ.i hC rfl (U0 hx12) (estr.idx hx12) rfl (E' rfl (n' (ci' rfl hh (fun hh=>?_) (fun hh=>?_))))))))))))
   ·obtain ⟨x13,hx13,hh⟩:=bs' hh
    obtain ⟨x14,hx14,hh⟩:=bs' hh
    cases hh
    exact p' 1 rfl (i' rfl (U0 hx13) (A0.idx hx13) rfl (o' 3 rfl (i' rfl (U0 hx14) (A0.idx hx14) rfl (q' rfl (E0.s hC rfl (e' rfl (re' (rt' rfl rfl rfl))))))))
   refine sk' (T' rfl ?_)
   refine W0.wk ?_ (ih0 _ _ hh)
   exact ⟨⟨⟨.rfl,rfl⟩,⟨.rfl,rfl⟩,⟨.rfl,rfl⟩,⟨.rfl,rfl⟩,trivial⟩,⟨trivial,⟨rfl,.refl _,rfl⟩,⟨rfl,.refl _,rfl⟩,rfl,trivial⟩,rfl⟩
  cases hh
  exact ex' (p' 1 rfl (E0.s hC rfl (e' rfl (re' (rt' rfl rfl rfl)))))
theorem K1g {e k i1 res}(hh:W8 e k i1=some res):I11 e k i1 res:=(G1e e k) _ _ hh
def D4 (a:Int)(b:Int):Option Int:=
 if (decide (a < b))=true then
  some a
 else
  some b
theorem B5 {a b res}(hh:D4 a b=some res):L0 C 82 [.d (.int .i64 a),.d (.int .i64 b)] [] (Ret [] (.d (.int .i64 res))):=by
 unfold D4 at hh
 refine L0.intro hC Tryz.func82 rfl rfl rfl (t' rfl (S' (t' rfl (ci' rfl hh (fun hh=>?_) (fun hh=>?_)))))
 ·cases hh
  exact t' rfl (re' (rt' rfl rfl rfl))
 cases hh
 exact sk' (t' rfl (re' (rt' rfl rfl rfl)))
def A4 (a:Int)(b:Int):Option Int:=
 if (decide (a > b))=true then
  some a
 else
  some b
theorem M7 {a b res}(hh:A4 a b=some res):L0 C 161 [.d (.int .i64 a),.d (.int .i64 b)] [] (Ret [] (.d (.int .i64 res))):=by
 unfold A4 at hh
 refine L0.intro hC Tryz.func161 rfl rfl rfl (t' rfl (S' (t' rfl (ci' rfl hh (fun hh=>?_) (fun hh=>?_)))))
 ·cases hh
  exact t' rfl (re' (rt' rfl rfl rfl))
 cases hh
 exact sk' (t' rfl (re' (rt' rfl rfl rfl)))
def Lf (t:A0):Option (A0×Int):=
 if (bif (decide (t.Low < (-1048576))) then true else (decide (t.High > 1048576)))=true then
  some ((A0.mk 0 0 0 0 [] [] []),3)
 else
  some (t,0)
theorem Qz {t res}(hh:Lf t=some res):L0 C 162 [.agg (A0.cells t)] [] (Ret [] (.tup [.agg (A0.cells res.1),.d (.int .i64 res.2)])):=by
 unfold Lf at hh
 refine L0.intro hC Tryz.func162 rfl rfl rfl (s' rfl rfl (E0.n hC rfl (E0.nf hC rfl (e' rfl (S' (sg' 8 rfl (G' 5 rfl (a1' rfl (a1' rfl (po' rfl (an' (n' (ci' rfl hh (fun hh=>?_) (fun hh=>?_))))))))))))))
 ·cases hh
  exact p' 1 rfl (E0.s hC rfl (e' rfl (re' (rt' rfl rfl rfl))))
 cases hh
 exact sk' (p' 1 rfl (E0.s hC rfl (e' rfl (re' (rt' rfl rfl rfl)))))
def Xm (t:A0):Option Int:=
 A4 t.High (IntKind.i64.wrap (0 - t.Low))>>=fun x1=>
 some x1
theorem K1b {t res}(hh:Xm t=some res):L0 C 201 [.agg (A0.cells t)] [] (Ret [] (.d (.int .i64 res))):=by
 unfold Xm at hh
 obtain ⟨x1,hx1,hh⟩:=bs' hh
 cases hh
 exact L0.intro hC Tryz.func201 rfl rfl rfl (s' rfl rfl (E0.n hC rfl (e' rfl (p' 5 rfl (c' (M7 hx1) rfl rfl (e' rfl (re' (rt' rfl rfl rfl))))))))
def Si (low:Int)(high:Int):Option A0:=
 C4 low high>>=fun x6=>
 some x6
theorem Tv {low high res}(hh:Si low high=some res):JM C 77 0 Tryz.f163 [1,1,0,1,2,1,1,1,1] [(6,.ref 2 0),(8,.d (.int .i64 low)),(9,.d (.int .i64 high))] [.dead,.dead,.row [.d (.int .i64 0),.d (.int .i64 0),.d (.int .i64 0),.d (.int .i64 0),.d (.str []),.full (estr.rows []),.full (A0.rows [])] 40] (Ret [] (.agg (A0.cells res))):=by
 unfold Si at hh
 obtain ⟨x6,hx6,hh⟩:=bs' hh
 cases hh
 exact p' 2 rfl (c' (Z5 hx6) rfl rfl (E0.s hC rfl (n' (re' (rt' rfl rfl rfl)))))
def Ti (b:A0)(low:Int):Option A0:=
 if (decide (b.High > 0))=true then
  A4 (IntKind.i64.wrap (b.High - 1)) 0>>=fun x5=>
  Si low x5
 else
  Si low 0
theorem Uv {b low res}(hh:Ti b low=some res):JM C 77 0 Tryz.f163 [1,1,0,1,2,1,1,1] [(5,.ref 1 0),(6,.ref 2 0),(8,.d (.int .i64 low)),(9,.d (.int .i64 0))] [.dead,.row (A0.cells b) 40,.row [.d (.int .i64 0),.d (.int .i64 0),.d (.int .i64 0),.d (.int .i64 0),.d (.str []),.full (estr.rows []),.full (A0.rows [])] 40] (Ret [] (.agg (A0.cells res))):=by
 unfold Ti at hh
 refine S' (t' rfl (ci' rfl hh (fun hh=>?_) (fun hh=>?_)))
 ·obtain ⟨x5,hx5,hh⟩:=bs' hh
  refine P' 3 rfl (c' (M7 hx5) rfl rfl (e' rfl ?_))
  refine AEx.wk ?_ (Tv hh)
  exact ⟨⟨⟨.rfl,rfl⟩,⟨.rfl,rfl⟩,⟨.rfl,rfl⟩,trivial⟩,⟨trivial,trivial,⟨rfl,.refl _,rfl⟩,trivial⟩,rfl⟩
 refine sk' ?_
 refine AEx.wk ?_ (Tv hh)
 exact ⟨⟨⟨.rfl,rfl⟩,⟨.rfl,rfl⟩,⟨.rfl,rfl⟩,trivial⟩,⟨trivial,trivial,⟨rfl,.refl _,rfl⟩,trivial⟩,rfl⟩
mutual
def O4 (o:Int)(a:A0)(b:A0)(o3:A0)(i:Int):Option A0:=
 if (decide (i < 4))=true then
  idx [a.Low,a.Low,a.High,a.High] i>>=fun x1=>
  idx [b.Low,b.High,b.Low,b.High] i>>=fun x2=>
  if (o == 9)=true then
   idx [a.Low,a.Low,a.High,a.High] i>>=fun x3=>
   idx [b.Low,b.High,b.Low,b.High] i>>=fun x4=>
   Hh o a b o3 i (IntKind.i64.wrap (x3 - x4))
  else
   Hh o a b o3 i (IntKind.i64.wrap (x1+x2))
 else
  some o3
 partial_fixpoint
def Hh (o:Int)(a:A0)(b:A0)(o31:A0)(i1:Int)(n:Int):Option A0:=
 if (o == 10)=true then
  idx [a.Low,a.Low,a.High,a.High] i1>>=fun x5=>
  idx [b.Low,b.High,b.Low,b.High] i1>>=fun x6=>
  Ih o a b o31 i1 (IntKind.i64.wrap (x5 * x6))
 else
  Ih o a b o31 i1 n
 partial_fixpoint
def Ih (o:Int)(a:A0)(b:A0)(o32:A0)(i2:Int)(n1:Int):Option A0:=
 if (i2 == 0)=true then
  C4 n1 n1>>=fun x7=>
  Jh o a b x7 i2 n1
 else
  Jh o a b o32 i2 n1
 partial_fixpoint
def Jh (o:Int)(a:A0)(b:A0)(o33:A0)(i3:Int)(n1:Int):Option A0:=
 D4 o33.Low n1>>=fun x8=>
 A4 o33.High n1>>=fun x9=>
 C4 x8 x9>>=fun x10=>
 O4 o a b x10 (IntKind.i64.wrap (i3+1))
 partial_fixpoint
end
abbrev Vv (o:Int)(a:A0)(b:A0)(o3:A0)(i:Int)(res:A0):Prop:=LM C 81 0 Tryz.f202 [1,1,1,1,0,1,4] [(0,.d (.int .i64 o)),(6,.ref 2 0),(7,.full (ei64.rows [a.Low,a.Low,a.High,a.High])),(8,.full (ei64.rows [b.Low,b.High,b.Low,b.High])),(9,.ref 3 0),(10,.d (.int .i64 i))] [.dead,.dead,.row [.d (.int .i64 0),.d (.int .i64 0),.d (.int .i64 0),.d (.int .i64 0),.d (.str []),.full (estr.rows []),.full (A0.rows [])] 40,.row (A0.cells o3) 40] (Ret [] (.agg (A0.cells res)))
abbrev L1b (o:Int)(a:A0)(b:A0)(o31:A0)(i1:Int)(n:Int)(res:A0):Prop:=JM C 81 0 Tryz.f202 [1,1,1,1,0,1,4,5,1,0,4,1,1] [(0,.d (.int .i64 o)),(6,.ref 2 0),(7,.full (ei64.rows [a.Low,a.Low,a.High,a.High])),(8,.full (ei64.rows [b.Low,b.High,b.Low,b.High])),(9,.ref 3 0),(10,.d (.int .i64 i1)),(11,.d (.int .i64 n))] [.dead,.dead,.row [.d (.int .i64 0),.d (.int .i64 0),.d (.int .i64 0),.d (.int .i64 0),.d (.str []),.full (estr.rows []),.full (A0.rows [])] 40,.row (A0.cells o31) 40] (Ret [] (.agg (A0.cells res)))
abbrev M1b (o:Int)(a:A0)(b:A0)(o32:A0)(i2:Int)(n1:Int)(res:A0):Prop:=JM C 81 0 Tryz.f202 [1,1,1,1,0,1,4,5,1,0,4,1,1,1] [(0,.d (.int .i64 o)),(6,.ref 2 0),(7,.full (ei64.rows [a.Low,a.Low,a.High,a.High])),(8,.full (ei64.rows [b.Low,b.High,b.Low,b.High])),(9,.ref 3 0),(10,.d (.int .i64 i2)),(11,.d (.int .i64 n1))] [.dead,.dead,.row [.d (.int .i64 0),.d (.int .i64 0),.d (.int .i64 0),.d (.int .i64 0),.d (.str []),.full (estr.rows []),.full (A0.rows [])] 40,.row (A0.cells o32) 40] (Ret [] (.agg (A0.cells res)))
abbrev N1b (o:Int)(a:A0)(b:A0)(o33:A0)(i3:Int)(n1:Int)(res:A0):Prop:=JM C 81 0 Tryz.f202 [1,1,1,1,0,1,4,5,1,0,4,1,1,1,1] [(0,.d (.int .i64 o)),(6,.ref 2 0),(7,.full (ei64.rows [a.Low,a.Low,a.High,a.High])),(8,.full (ei64.rows [b.Low,b.High,b.Low,b.High])),(9,.ref 3 0),(10,.d (.int .i64 i3)),(11,.d (.int .i64 n1))] [.dead,.dead,.row [.d (.int .i64 0),.d (.int .i64 0),.d (.int .i64 0),.d (.int .i64 0),.d (.str []),.full (estr.rows []),.full (A0.rows [])] 40,.row (A0.cells o33) 40] (Ret [] (.agg (A0.cells res)))
theorem S16 (o:Int)(a:A0)(b:A0):(∀ o3 i res,O4 o a b o3 i=some res→Vv o a b o3 i res)∧(∀ o31 i1 n res,Hh o a b o31 i1 n=some res→L1b o a b o31 i1 n res)∧(∀ o32 i2 n1 res,Ih o a b o32 i2 n1=some res→M1b o a b o32 i2 n1 res)∧(∀ o33 i3 n1 res,Jh o a b o33 i3 n1=some res→N1b o a b o33 i3 n1 res):=by
 refine O4.mutual_partial_correctness o a b _ _ _ _ ?_ ?_ ?_ ?_
 ·intro g1 ih1 o3 i res hh
  refine W0.unroll (S' (t' rfl (ci' rfl hh (fun hh=>?_) (fun hh=>?_))))
  ·obtain ⟨x1,hx1,hh⟩:=bs' hh
   obtain ⟨x2,hx2,hh⟩:=bs' hh
   refine sk' (S' (bk' (S' (AEx.draw hC 10 rfl rfl rfl (O' 2 rfl (AQ.i hC rfl (U0 hx1) (ei64.idx hx1) rfl (O' 3 rfl (AQ.i hC rfl (U0 hx2) (ei64.idx hx2) rfl (E' rfl (n' (S' (t' rfl (ci' rfl hh (fun hh=>?_) (fun hh=>?_))))))))))))))
   ·obtain ⟨x3,hx3,hh⟩:=bs' hh
    obtain ⟨x4,hx4,hh⟩:=bs' hh
    refine AEx.draw hC 10 rfl rfl rfl (O' 2 rfl (AQ.i hC rfl (U0 hx3) (ei64.idx hx3) rfl (O' 3 rfl (AQ.i hC rfl (U0 hx4) (ei64.idx hx4) rfl (E' rfl (n' ?_))))))
    refine AEx.wk ?_ (ih1 _ _ _ _ hh)
    exact ⟨⟨⟨.rfl,rfl⟩,⟨.rfl,rfl⟩,⟨.rfl,rfl⟩,⟨.rfl,rfl⟩,⟨.rfl,rfl⟩,⟨.rfl,rfl⟩,⟨.rfl,rfl⟩,trivial⟩,⟨trivial,trivial,⟨rfl,.refl _,rfl⟩,⟨rfl,.refl _,rfl⟩,trivial⟩,rfl⟩
   refine sk' ?_
   refine AEx.wk ?_ (ih1 _ _ _ _ hh)
   exact ⟨⟨⟨.rfl,rfl⟩,⟨.rfl,rfl⟩,⟨.rfl,rfl⟩,⟨.rfl,rfl⟩,⟨.rfl,rfl⟩,⟨.rfl,rfl⟩,⟨.rfl,rfl⟩,trivial⟩,⟨trivial,trivial,⟨rfl,.refl _,rfl⟩,⟨rfl,.refl _,rfl⟩,trivial⟩,rfl⟩
  cases hh
  exact ex' (p' 1 rfl (E0.s hC rfl (n' (re' (rt' rfl rfl rfl)))))
 ·intro g2 ih2 o31 i1 n res hh
  refine S' (t' rfl (ci' rfl hh (fun hh=>?_) (fun hh=>?_)))
  ·obtain ⟨x5,hx5,hh⟩:=bs' hh
   obtain ⟨x6,hx6,hh⟩:=bs' hh
   refine AEx.draw hC 10 rfl rfl rfl (O' 2 rfl (AQ.i hC rfl (U0 hx5) (ei64.idx hx5) rfl (O' 3 rfl (AQ.i hC rfl (U0 hx6) (ei64.idx hx6) rfl (E' rfl (n' ?_))))))
   refine AEx.wk ?_ (ih2 _ _ _ _ hh)
   exact ⟨⟨⟨.rfl,rfl⟩,⟨.rfl,rfl⟩,⟨.rfl,rfl⟩,⟨.rfl,rfl⟩,⟨.rfl,rfl⟩,⟨.rfl,rfl⟩,⟨.rfl,rfl⟩,trivial⟩,⟨trivial,trivial,⟨rfl,.refl _,rfl⟩,⟨rfl,.refl _,rfl⟩,trivial⟩,rfl⟩
  refine sk' ?_
  refine AEx.wk ?_ (ih2 _ _ _ _ hh)
  exact ⟨⟨⟨.rfl,rfl⟩,⟨.rfl,rfl⟩,⟨.rfl,rfl⟩,⟨.rfl,rfl⟩,⟨.rfl,rfl⟩,⟨.rfl,rfl⟩,⟨.rfl,rfl⟩,trivial⟩,⟨trivial,trivial,⟨rfl,.refl _,rfl⟩,⟨rfl,.refl _,rfl⟩,trivial⟩,rfl⟩
 ·intro g3 ih3 o32 i2 n1 res hh
  refine S' (t' rfl (ci' rfl hh (fun hh=>?_) (fun hh=>?_)))
  ·obtain ⟨x7,hx7,hh⟩:=bs' hh
   refine P' 2 rfl (c' (Z5 hx7) rfl rfl (E0.s hC rfl (n' ?_)))
   refine AEx.wk ?_ (ih3 _ _ _ _ hh)
   exact ⟨⟨⟨.rfl,rfl⟩,⟨.rfl,rfl⟩,⟨.rfl,rfl⟩,⟨.rfl,rfl⟩,⟨.rfl,rfl⟩,⟨.rfl,rfl⟩,⟨.rfl,rfl⟩,trivial⟩,⟨trivial,trivial,⟨rfl,.refl _,rfl⟩,⟨rfl,.refl _,rfl⟩,trivial⟩,rfl⟩
  refine sk' ?_
  refine AEx.wk ?_ (ih3 _ _ _ _ hh)
  exact ⟨⟨⟨.rfl,rfl⟩,⟨.rfl,rfl⟩,⟨.rfl,rfl⟩,⟨.rfl,rfl⟩,⟨.rfl,rfl⟩,⟨.rfl,rfl⟩,⟨.rfl,rfl⟩,trivial⟩,⟨trivial,trivial,⟨rfl,.refl _,rfl⟩,⟨rfl,.refl _,rfl⟩,trivial⟩,rfl⟩
 ·intro g0 ih0 o33 i3 n1 res hh
  obtain ⟨x8,hx8,hh⟩:=bs' hh
  obtain ⟨x9,hx9,hh⟩:=bs' hh
  obtain ⟨x10,hx10,hh⟩:=bs' hh
  refine AEx.draw hC 9 rfl rfl rfl (O' 3 rfl (Qc' (B5 hx8) rfl rfl (O' 3 rfl (Qc' (M7 hx9) rfl rfl (Qc' (Z5 hx10) rfl rfl (Qn' (E0.s hC rfl (n' (T' rfl ?_)))))))))
  refine W0.wk ?_ (ih0 _ _ _ hh)
  exact ⟨⟨⟨.rfl,rfl⟩,⟨.rfl,rfl⟩,⟨.rfl,rfl⟩,⟨.rfl,rfl⟩,⟨.rfl,rfl⟩,⟨.rfl,rfl⟩,trivial⟩,⟨trivial,trivial,⟨rfl,.refl _,rfl⟩,⟨rfl,.refl _,rfl⟩,trivial⟩,rfl⟩
theorem G19 {o a b o3 i res}(hh:O4 o a b o3 i=some res):Vv o a b o3 i res:=(S16 o a b).1 _ _ _ hh
def Fd (o:Int)(a:A0)(b:A0):Option A0:=
 O4 o a b (A0.mk 0 0 0 0 [] [] []) 0
theorem L1g {o a b res}(hh:Fd o a b=some res):L0 C 202 [.d (.int .i64 o),.agg (A0.cells a),.agg (A0.cells b)] [] (Ret [] (.agg (A0.cells res))):=by
 unfold Fd at hh
 refine L0.intro hC Tryz.func202 rfl rfl rfl (s' rfl rfl (E0.n hC rfl (E0.n hC rfl (E0.nf hC rfl (n' (p' 8 rfl (E0.be hC rfl (ei64.rows_map [a.Low,a.Low,a.High,a.High]).symm (e' rfl (p' 8 rfl (E0.be hC rfl (ei64.rows_map [b.Low,b.High,b.Low,b.High]).symm (e' rfl (p' 1 rfl (E0.nf hC rfl ?_)))))))))))))
 refine E0.s hC rfl (n' (S' (t' rfl (bk' ?_))))
 refine AEx.ofLoop ?_
 refine W0.wk ?_ (G19 hh)
 exact ⟨⟨⟨.rfl,rfl⟩,⟨.rfl,rfl⟩,⟨.rfl,rfl⟩,⟨.rfl,rfl⟩,⟨.rfl,rfl⟩,⟨.rfl,rfl⟩,trivial⟩,⟨trivial,trivial,⟨rfl,.refl _,rfl⟩,⟨rfl,.refl _,rfl⟩,trivial⟩,rfl⟩
def Jk (o:Int)(a:A0)(b:A0):Option A0:=
 if (o == 11)=true then
  Xm a>>=fun x1=>
  if (bif (decide (a.Low≥0)) then (decide (b.Low≥0)) else false)=true then
   C4 0 x1>>=fun x2=>
   some x2
  else
   C4 (IntKind.i64.wrap (0 - x1)) x1>>=fun x3=>
   some x3
 else
  if (o == 12)=true then
   if (decide (b.Low < 0))=true then
    D4 (IntKind.i64.wrap (b.Low+1)) 0>>=fun x4=>
    Ti b x4
   else
    Ti b 0
  else
   if (o == 21)=true then
    D4 a.Low b.Low>>=fun x7=>
    D4 a.High b.High>>=fun x8=>
    C4 x7 x8>>=fun x9=>
    some x9
   else
    if (o == 22)=true then
     A4 a.Low b.Low>>=fun x10=>
     A4 a.High b.High>>=fun x11=>
     C4 x10 x11>>=fun x12=>
     some x12
    else
     Fd o a b>>=fun x13=>
     some x13
theorem L1j {o a b res}(hh:Jk o a b=some res):L0 C 163 [.d (.int .i64 o),.agg (A0.cells a),.agg (A0.cells b)] [] (Ret [] (.agg (A0.cells res))):=by
 unfold Jk at hh
 refine L0.intro hC Tryz.func163 rfl rfl rfl (s' rfl rfl (E0.n hC rfl (E0.n hC rfl (E0.nf hC rfl (n' (S' (t' rfl (ci' rfl hh (fun hh=>?_) (fun hh=>?_)))))))))
 ·obtain ⟨x1,hx1,hh⟩:=bs' hh
  refine p' 1 rfl (c' (K1b hx1) rfl rfl (e' rfl (S' (sg' 8 rfl (G' 5 rfl (a1' rfl (a1' rfl (pa' rfl (an' (n' (ci' rfl hh (fun hh=>?_) (fun hh=>?_))))))))))))
  ·obtain ⟨x2,hx2,hh⟩:=bs' hh
   cases hh
   exact p' 1 rfl (c' (Z5 hx2) rfl rfl (E0.s hC rfl (n' (re' (rt' rfl rfl rfl)))))
  obtain ⟨x3,hx3,hh⟩:=bs' hh
  cases hh
  exact sk' (p' 3 rfl (c' (Z5 hx3) rfl rfl (E0.s hC rfl (n' (re' (rt' rfl rfl rfl))))))
 refine sk' (S' (t' rfl (ci' rfl hh (fun hh=>?_) (fun hh=>?_))))
 ·refine t' rfl (t' rfl (S' (t' rfl (ci' rfl hh (fun hh=>?_) (fun hh=>?_)))))
  ·obtain ⟨x4,hx4,hh⟩:=bs' hh
   refine P' 3 rfl (c' (B5 hx4) rfl rfl (e' rfl ?_))
   refine AEx.wk ?_ (Uv hh)
   exact ⟨⟨⟨.rfl,rfl⟩,⟨.rfl,rfl⟩,⟨.rfl,rfl⟩,⟨.rfl,rfl⟩,trivial⟩,⟨trivial,⟨rfl,.refl _,rfl⟩,⟨rfl,.refl _,rfl⟩,trivial⟩,rfl⟩
  refine sk' ?_
  refine AEx.wk ?_ (Uv hh)
  exact ⟨⟨⟨.rfl,rfl⟩,⟨.rfl,rfl⟩,⟨.rfl,rfl⟩,⟨.rfl,rfl⟩,trivial⟩,⟨trivial,⟨rfl,.refl _,rfl⟩,⟨rfl,.refl _,rfl⟩,trivial⟩,rfl⟩
 refine sk' (S' (t' rfl (ci' rfl hh (fun hh=>?_) (fun hh=>?_))))
 ·obtain ⟨x7,hx7,hh⟩:=bs' hh
  obtain ⟨x8,hx8,hh⟩:=bs' hh
  obtain ⟨x9,hx9,hh⟩:=bs' hh
  cases hh
  exact S' (AEx.draw hC 11 rfl rfl rfl (O' 4 rfl (Qc' (B5 hx7) rfl rfl (O' 4 rfl (Qc' (B5 hx8) rfl rfl (Qc' (Z5 hx9) rfl rfl (Qn' (E0.s hC rfl (n' (re' (rt' rfl rfl rfl)))))))))))
 refine sk' (S' (t' rfl (ci' rfl hh (fun hh=>?_) (fun hh=>?_))))
 ·obtain ⟨x10,hx10,hh⟩:=bs' hh
  obtain ⟨x11,hx11,hh⟩:=bs' hh
  obtain ⟨x12,hx12,hh⟩:=bs' hh
  cases hh
  exact S' (AEx.draw hC 11 rfl rfl rfl (O' 4 rfl (Qc' (M7 hx10) rfl rfl (O' 4 rfl (Qc' (M7 hx11) rfl rfl (Qc' (Z5 hx12) rfl rfl (Qn' (E0.s hC rfl (n' (re' (rt' rfl rfl rfl)))))))))))
 obtain ⟨x13,hx13,hh⟩:=bs' hh
 cases hh
 exact sk' (p' 3 rfl (c' (L1g hx13) rfl rfl (E0.s hC rfl (n' (re' (rt' rfl rfl rfl))))))
def I5 (o:Int)(k:List A0)(ints:Bool)(bools:Bool)(i:Int):Option (A0×Int):=
 if (decide (i < ((k).length:Int)))=true then
  (if ints=true then idx k i else some default)>>=fun x1=>
  (if bools=true then idx k i else some default)>>=fun x2=>
  I5 o k (bif ints then (x1.Kind == 1) else false) (bif bools then (x2.Kind == 0) else false) (IntKind.i64.wrap (i+1))
 else
  if (bif (bif (o == 7) then true else (o == 19)) then true else (o == 20))=true then
   if (!bools)=true then
    some ((A0.mk 0 0 0 0 [] [] []),9)
   else
    some ((A0.mk 0 0 0 0 [] [] []),0)
  else
   if (bif (o == 13) then true else (o == 14))=true then
    if (bif (!ints) then (!bools) else false)=true then
     some ((A0.mk 0 0 0 0 [] [] []),9)
    else
     some ((A0.mk 0 0 0 0 [] [] []),0)
   else
    if (o == 23)=true then
     idx k 0>>=fun x3=>
     (if (!(x3.Kind != 0))=true then idx k 1 else some default)>>=fun x4=>
     (if (!(x3.Kind != 0))=true then X6 x4 else some default)>>=fun x5=>
     (if (!(bif (x3.Kind != 0) then true else (!x5)))=true then idx k 1 else some default)>>=fun x6=>
     (if (!(bif (x3.Kind != 0) then true else (!x5)))=true then idx k 2 else some default)>>=fun x7=>
     if (bif (bif (x3.Kind != 0) then true else (!x5)) then true else (x6.Kind != x7.Kind))=true then
      some ((A0.mk 0 0 0 0 [] [] []),9)
     else
      idx k 1>>=fun x8=>
      if (x8.Kind == 0)=true then
       some ((A0.mk 0 0 0 0 [] [] []),0)
      else
       idx k 1>>=fun x9=>
       idx k 2>>=fun x10=>
       D4 x9.Low x10.Low>>=fun x11=>
       idx k 1>>=fun x12=>
       idx k 2>>=fun x13=>
       A4 x12.High x13.High>>=fun x14=>
       C4 x11 x14>>=fun x15=>
       some (x15,0)
    else
     if (!ints)=true then
      some ((A0.mk 0 0 0 0 [] [] []),9)
     else
      if (bif (bif (bif (o == 15) then true else (o == 16)) then true else (o == 17)) then true else (o == 18))=true then
       some ((A0.mk 0 0 0 0 [] [] []),0)
      else
       if (o == 6)=true then
        idx k 0>>=fun x16=>
        idx k 0>>=fun x17=>
        C4 (IntKind.i64.wrap (0 - x16.High)) (IntKind.i64.wrap (0 - x17.Low))>>=fun x18=>
        Lf x18>>=fun x19=>
        some (x19.1,x19.2)
       else
        idx k 0>>=fun x20=>
        idx k 1>>=fun x21=>
        Jk o x20 x21>>=fun x22=>
        Lf x22>>=fun x23=>
        some (x23.1,x23.2)
 partial_fixpoint
abbrev Is (o:Int)(k:List A0)(ints:Bool)(bools:Bool)(i:Int)(res:A0×Int):Prop:=LM C 157 0 Tryz.f96 [1,1,1,0,1,4] [(0,.d (.int .i64 o)),(1,.d (.sl (A0.rows k))),(4,.ref 0 0),(6,.d (.bool ints)),(7,.d (.bool bools)),(8,.d (.int .i64 i))] [.row [.d (.int .i64 0),.d (.int .i64 0),.d (.int .i64 0),.d (.int .i64 0),.d (.str []),.full (estr.rows []),.full (A0.rows [])] 40] (Ret [] (.tup [.agg (A0.cells res.1),.d (.int .i64 res.2)]))
theorem R12 (o:Int)(k:List A0):(∀ ints bools i res,I5 o k ints bools i=some res→Is o k ints bools i res):=by
 refine I5.partial_correctness o k _ ?_
 ·intro g0 ih0 ints bools i res hh
  refine W0.unroll (S' (p' 2 rfl (qe' rfl trivial (A0.lenA _) (e' rfl (ci' rfl hh (fun hh=>?_) (fun hh=>?_))))))
  ·obtain ⟨x1,hx1,hh⟩:=bs' hh
   obtain ⟨x2,hx2,hh⟩:=bs' hh
   refine sk' (S' (bk' (sg' 10 rfl (G' 4 rfl (AG.i hC rfl rfl (fun hg=>⟨hg,hg,trivial⟩) (fun hw=>⟨U0 (I1 hw hx1),A0.idx (I1 hw hx1),rfl⟩) (a1' rfl (a1' rfl (a1' rfl (pa' rfl (a0' rfl (an' (n' (AEx.regionG 10 rfl ?_)))))))))))))
   exact G' 4 rfl (AG.i hC rfl rfl (fun hg=>⟨hg,hg,trivial⟩) (fun hw=>⟨U0 (I1 hw hx2),A0.idx (I1 hw hx2),rfl⟩) (a1' rfl (a1' rfl (a1' rfl (pa' rfl (a0' rfl (an' (n' (T' rfl (lw' (ih0 _ _ _ _ hh) rfl rfl rfl))))))))))
  refine ex' (S' (sg' 10 rfl (G' 4 rfl (a1' rfl (po' rfl (G' 2 rfl (a1' rfl (po' rfl (an' (n' (ci' rfl hh (fun hh=>?_) (fun hh=>?_))))))))))))
  ·refine S' (t' rfl (ci' rfl hh (fun hh=>?_) (fun hh=>?_)))
   ·cases hh
    exact p' 1 rfl (E0.s hC rfl (e' rfl (re' (rt' rfl rfl rfl))))
   cases hh
   exact sk' (p' 1 rfl (E0.s hC rfl (e' rfl (re' (rt' rfl rfl rfl)))))
  refine sk' (S' (sg' 6 rfl (G' 4 rfl (a1' rfl (po' rfl (an' (n' (ci' rfl hh (fun hh=>?_) (fun hh=>?_)))))))))
  ·refine S' (sg' 6 rfl (G' 4 rfl (a1' rfl (pa' rfl (an' (n' (ci' rfl hh (fun hh=>?_) (fun hh=>?_))))))))
   ·cases hh
    exact p' 1 rfl (E0.s hC rfl (e' rfl (re' (rt' rfl rfl rfl))))
   cases hh
   exact sk' (p' 1 rfl (E0.s hC rfl (e' rfl (re' (rt' rfl rfl rfl)))))
  refine sk' (S' (t' rfl (ci' rfl hh (fun hh=>?_) (fun hh=>?_))))
  ·obtain ⟨x3,hx3,hh⟩:=bs' hh
   obtain ⟨x4,hx4,hh⟩:=bs' hh
   obtain ⟨x5,hx5,hh⟩:=bs' hh
   obtain ⟨x6,hx6,hh⟩:=bs' hh
   obtain ⟨x7,hx7,hh⟩:=bs' hh
   refine S' (S' (AEx.drawG hC 23 rfl rfl rfl (a0' rfl (AG.i hC rfl rfl (fun _=>trivial) (fun hw=>⟨U0 hx3,A0.idx hx3,rfl⟩) (G' 5 rfl (AG.i hC rfl rfl (fun hg=>⟨hg,trivial⟩) (fun hw=>⟨U0 (I1 hw hx4),A0.idx (I1 hw hx4),rfl⟩) (a1' rfl (AG.c rfl rfl (fun hg=>⟨hg,trivial⟩) (fun hw=>Ri (I1 hw hx5)) (a1' rfl (po' rfl (G' 2 rfl ?_)))))))))))
   refine AG.i hC rfl rfl (fun hg=>⟨hg,trivial⟩) (fun hw=>⟨U0 (I1 hw hx6),A0.idx (I1 hw hx6),rfl⟩) (a1' rfl (a1' rfl (a0' rfl (AG.i hC rfl rfl (fun hg=>⟨hg,trivial⟩) (fun hw=>⟨U0 (I1 hw hx7),A0.idx (I1 hw hx7),rfl⟩) (a1' rfl (a1' rfl (a2' rfl (po' rfl (an' (n' (ci' rfl hh (fun hh=>?_) (fun hh=>?_))))))))))))
   ·cases hh
    exact p' 1 rfl (E0.s hC rfl (e' rfl (re' (rt' rfl rfl rfl))))
   obtain ⟨x8,hx8,hh⟩:=bs' hh
   refine sk' (S' (p' 1 rfl (i' rfl (U0 hx8) (A0.idx hx8) rfl (e' rfl (ci' rfl hh (fun hh=>?_) (fun hh=>?_))))))
   ·cases hh
    exact p' 1 rfl (E0.s hC rfl (e' rfl (re' (rt' rfl rfl rfl))))
   obtain ⟨x9,hx9,hh⟩:=bs' hh
   obtain ⟨x10,hx10,hh⟩:=bs' hh
   obtain ⟨x11,hx11,hh⟩:=bs' hh
   obtain ⟨x12,hx12,hh⟩:=bs' hh
   obtain ⟨x13,hx13,hh⟩:=bs' hh
   obtain ⟨x14,hx14,hh⟩:=bs' hh
   obtain ⟨x15,hx15,hh⟩:=bs' hh
   cases hh
   refine sk' (S' (AEx.draw hC 19 rfl rfl rfl (Q' rfl (AQ.i hC rfl (U0 hx9) (A0.idx hx9) rfl (O' 3 rfl (AQ.i hC rfl (U0 hx10) (A0.idx hx10) rfl (O' 2 rfl (Qc' (B5 hx11) rfl rfl (Q' rfl (AQ.i hC rfl (U0 hx12) (A0.idx hx12) rfl (O' 3 rfl (AQ.i hC rfl (U0 hx13) (A0.idx hx13) rfl (O' 2 rfl ?_)))))))))))))
   exact Qc' (M7 hx14) rfl rfl (Qc' (Z5 hx15) rfl rfl (Qn' (E0.s hC rfl (e' rfl (re' (rt' rfl rfl rfl))))))
  refine sk' (S' (t' rfl (ci' rfl hh (fun hh=>?_) (fun hh=>?_))))
  ·cases hh
   exact p' 1 rfl (E0.s hC rfl (e' rfl (re' (rt' rfl rfl rfl))))
  refine sk' (S' (sg' 14 rfl (G' 4 rfl (a1' rfl (po' rfl (G' 2 rfl (a1' rfl (po' rfl (G' 2 rfl (a1' rfl (po' rfl (an' (n' (ci' rfl hh (fun hh=>?_) (fun hh=>?_)))))))))))))))
  ·cases hh
   exact p' 1 rfl (E0.s hC rfl (e' rfl (re' (rt' rfl rfl rfl))))
  refine sk' (S' (t' rfl (ci' rfl hh (fun hh=>?_) (fun hh=>?_))))
  ·obtain ⟨x16,hx16,hh⟩:=bs' hh
   obtain ⟨x17,hx17,hh⟩:=bs' hh
   obtain ⟨x18,hx18,hh⟩:=bs' hh
   obtain ⟨x19,hx19,hh⟩:=bs' hh
   cases hh
   exact S' (AEx.draw hC 14 rfl rfl rfl (Q' rfl (AQ.i hC rfl (U0 hx16) (A0.idx hx16) rfl (O' 4 rfl (AQ.i hC rfl (U0 hx17) (A0.idx hx17) rfl (O' 3 rfl (Qc' (Z5 hx18) rfl rfl (Qc' (Qz hx19) rfl rfl (E' rfl (E0.s hC rfl (e' rfl (re' (rt' rfl rfl rfl)))))))))))))
  obtain ⟨x20,hx20,hh⟩:=bs' hh
  obtain ⟨x21,hx21,hh⟩:=bs' hh
  obtain ⟨x22,hx22,hh⟩:=bs' hh
  obtain ⟨x23,hx23,hh⟩:=bs' hh
  cases hh
  exact sk' (S' (AEx.draw hC 11 rfl rfl rfl (O' 2 rfl (AQ.i hC rfl (U0 hx20) (A0.idx hx20) rfl (O' 2 rfl (AQ.i hC rfl (U0 hx21) (A0.idx hx21) rfl (Q' rfl (Qc' (L1j hx22) rfl rfl (Qc' (Qz hx23) rfl rfl (E' rfl (E0.s hC rfl (e' rfl (re' (rt' rfl rfl rfl))))))))))))))
theorem K14 {o k ints bools i res}(hh:I5 o k ints bools i=some res):Is o k ints bools i res:=(R12 o k) _ _ _ _ hh
def Ef (o:Int)(k:List A0):Option (A0×Int):=
 I5 o k true true 0
theorem O1b {o k res}(hh:Ef o k=some res):L0 C 96 [.d (.int .i64 o),.d (.sl (A0.rows k))] [] (Ret [] (.tup [.agg (A0.cells res.1),.d (.int .i64 res.2)])):=by
 unfold Ef at hh
 exact L0.intro hC Tryz.func96 rfl rfl rfl (s' rfl rfl (E0.nf hC rfl (e' rfl (t' rfl (t' rfl (S' (t' rfl (bk' (fw' (K14 hh) rfl rfl rfl)))))))))
mutual
def I9 (s:T0)(e:D0):Option (A0×Int):=
 Gi s e [] 0
 partial_fixpoint
def Gi (s:T0)(e:D0)(k:List A0)(i:Int):Option (A0×Int):=
 if (decide (i < ((e.Kids).length:Int)))=true then
  idx e.Kids i>>=fun x1=>
  I9 s x1>>=fun x15=>
  if (x15.2 != 0)=true then
   some ((A0.mk 0 0 0 0 [] [] []),x15.2)
  else
   if (decide ((k.length+1) * 97≤140737488355328))=true then
    Gi s e (k++[x15.1]) (IntKind.i64.wrap (i+1))
   else none
 else
  if (e.Op == 0)=true then
   C4 e.NV e.NV>>=fun x2=>
   some (x2,0)
  else
   if (bif (e.Op == 1) then true else (e.Op == 2))=true then
    some ((A0.mk 0 0 0 0 [] [] []),0)
   else
    if (e.Op == 3)=true then
     Bg s e.Name>>=fun x3=>
     if (!x3.2)=true then
      some ((A0.mk 0 0 0 0 [] [] []),7)
     else
      some (x3.1.TypeV,0)
    else
     if (e.Op == 4)=true then
      idx k 0>>=fun x4=>
      if (x4.Kind != 3)=true then
       some ((A0.mk 0 0 0 0 [] [] []),9)
      else
       W8 e k 0
     else
      if (e.Op == 5)=true then
       idx k 0>>=fun x5=>
       (if (!(x5.Kind != 2))=true then idx k 1 else some default)>>=fun x6=>
       if (bif (x5.Kind != 2) then true else (x6.Kind != 1))=true then
        some ((A0.mk 0 0 0 0 [] [] []),9)
       else
        idx k 0>>=fun x7=>
        idx x7.Of 0>>=fun x8=>
        some (x8,0)
      else
       Ef e.Op k>>=fun x9=>
       some (x9.1,x9.2)
 partial_fixpoint
end
abbrev P1b (s:T0)(e:D0)(res:A0×Int):Prop:=L0 C 44 [.agg (T0.cells s),.agg (D0.cells e)] [] (Ret [] (.tup [.agg (A0.cells res.1),.d (.int .i64 res.2)]))
abbrev M1j (s:T0)(e:D0)(k:List A0)(i:Int)(res:A0×Int):Prop:=LM C 135 0 Tryz.f44 [1,1,0,1,4] [(2,.ref 0 0),(3,.ref 1 0),(4,.ref 2 0),(6,.osl 3 (A0.rows k)),(7,.d (.int .i64 i))] [.row (T0.cells s) 78,.row (D0.cells e) 34,.row [.d (.int .i64 0),.d (.int .i64 0),.d (.int .i64 0),.d (.int .i64 0),.d (.str []),.full (estr.rows []),.full (A0.rows [])] 40,.tok 40 7] (Ret [] (.tup [.agg (A0.cells res.1),.d (.int .i64 res.2)]))
theorem O1l (s:T0):(∀ e res,I9 s e=some res→P1b s e res)∧(∀ e k i res,Gi s e k i=some res→M1j s e k i res):=by
 refine I9.mutual_partial_correctness s _ _ ?_ ?_
 ·intro g1 ih1 e res hh
  exact L0.intro hC Tryz.func44 rfl rfl rfl (s' rfl rfl (E0.n hC rfl (E0.n hC rfl (E0.nf hC rfl (e' rfl (s' rfl rfl (E0.be hC rfl (A0.rows_map []).symm (E0.tokE 13 40 7 rfl (e' rfl (S' (t' rfl (bk' (fw' (ih1 _ _ _ _ hh) rfl rfl rfl)))))))))))))
 ·intro g0 g1 ih0 ih1 e k i res hh
  refine W0.unroll (S' (p' 3 rfl (qe' rfl trivial (D0.lenA _) (e' rfl (ci' rfl hh (fun hh=>?_) (fun hh=>?_))))))
  ·obtain ⟨x1,hx1,hh⟩:=bs' hh
   obtain ⟨x15,hx15,hh⟩:=bs' hh
   refine sk' (S' (bk' (S' ?_)))
   refine AEx.drawL hC 12 [11] [(10,4)] [[.row (T0.cells s) 78,.row (D0.cells e) 34,.row [.d (.int .i64 0),.d (.int .i64 0),.d (.int .i64 0),.d (.int .i64 0),.d (.str []),.full (estr.rows []),.full (A0.rows [])] 40,.tok 40 7,.row [.d (.int .i64 0),.d (.int .i64 0),.d (.int .i64 0),.d (.int .i64 0),.d (.str []),.full (estr.rows []),.full (A0.rows [])] 40],[.row (T0.cells s) 78,.row (D0.cells e) 34,.row [.d (.int .i64 0),.d (.int .i64 0),.d (.int .i64 0),.d (.int .i64 0),.d (.str []),.full (estr.rows []),.full (A0.rows [])] 40,.tok 40 7,.row (A0.cells x15.1) 40]] rfl rfl rfl rfl rfl rfl rfl rfl rfl rfl ?_
   refine AS.q hC rfl rfl rfl rfl (AS.q hC rfl rfl rfl rfl (AS.q hC rfl rfl rfl rfl (AS.q hC rfl rfl rfl rfl (AS.ix hC rfl (U0 hx1) (D0.idx hx1) rfl rfl rfl (AS.q hC rfl rfl rfl rfl (AS.c (ih0 _ _ hx15) rfl rfl rfl rfl (AS.q hC rfl rfl rfl rfl (AS.q hC rfl rfl rfl rfl (AS.q hC rfl rfl rfl rfl (AS.n hC rfl rfl rfl rfl (AS.s hC rfl rfl rfl rfl rfl rfl rfl (AS.nil (e' rfl ?_)))))))))))))
   refine S' (t' rfl (ci' rfl hh (fun hh=>?_) (fun hh=>?_)))
   ·cases hh
    exact p' 2 rfl (E0.s hC rfl (e' rfl (re' (rt' rfl rfl rfl))))
   obtain ⟨c8,hh⟩:=G1 hh
   exact sk' (P' 2 rfl (E0.be hC rfl (A0.rows_map [x15.1]).symm (E0.ap hC rfl (rs:=A0.rows (k++[x15.1])) (A0.app k [x15.1]) (A0.sz k) (A0.sz [x15.1]) (X3 (A0.len k) (A0.len [x15.1]) c8) (e' rfl (T' rfl (lw' (ih1 _ _ _ _ hh) rfl rfl rfl))))))
  refine ex' (S' (t' rfl (ci' rfl hh (fun hh=>?_) (fun hh=>?_))))
  ·obtain ⟨x2,hx2,hh⟩:=bs' hh
   cases hh
   exact p' 4 rfl (c' (Z5 hx2) rfl rfl (E0.s hC rfl (e' rfl (re' (rt' rfl rfl rfl)))))
  refine sk' (S' (sg' 8 rfl (G' 5 rfl (a1' rfl (a1' rfl (po' rfl (an' (n' (ci' rfl hh (fun hh=>?_) (fun hh=>?_))))))))))
  ·cases hh
   exact p' 1 rfl (E0.s hC rfl (e' rfl (re' (rt' rfl rfl rfl))))
  refine sk' (S' (t' rfl (ci' rfl hh (fun hh=>?_) (fun hh=>?_))))
  ·obtain ⟨x3,hx3,hh⟩:=bs' hh
   refine p' 3 rfl (c' (P17 hx3) rfl rfl (o' 3 rfl (E0.nf hC rfl (E0.s hC rfl (e' rfl (S' (t' rfl (ci' rfl hh (fun hh=>?_) (fun hh=>?_)))))))))
   ·cases hh
    exact p' 1 rfl (E0.s hC rfl (e' rfl (re' (rt' rfl rfl rfl))))
   cases hh
   exact sk' (p' 2 rfl (E0.s hC rfl (e' rfl (re' (rt' rfl rfl rfl)))))
  refine sk' (S' (t' rfl (ci' rfl hh (fun hh=>?_) (fun hh=>?_))))
  ·obtain ⟨x4,hx4,hh⟩:=bs' hh
   refine S' (p' 1 rfl (i' rfl (U0 hx4) (A0.idx hx4) rfl (e' rfl (ci' rfl hh (fun hh=>?_) (fun hh=>?_)))))
   ·cases hh
    exact p' 1 rfl (E0.s hC rfl (e' rfl (re' (rt' rfl rfl rfl))))
   refine sk' (S' (t' rfl (bk' ?_)))
   refine AEx.ofLoop ?_
   refine W0.wk ?_ (K1g hh)
   exact ⟨⟨⟨.rfl,rfl⟩,⟨.rfl,rfl⟩,⟨.rfl,rfl⟩,⟨.rfl,rfl⟩,trivial⟩,⟨trivial,⟨rfl,.refl _,rfl⟩,⟨rfl,.refl _,rfl⟩,rfl,trivial⟩,rfl⟩
  refine sk' (S' (t' rfl (ci' rfl hh (fun hh=>?_) (fun hh=>?_))))
  ·obtain ⟨x5,hx5,hh⟩:=bs' hh
   obtain ⟨x6,hx6,hh⟩:=bs' hh
   refine S' (sg' 12 rfl (a0' rfl (AG.i hC rfl rfl (fun _=>trivial) (fun hw=>⟨U0 hx5,A0.idx hx5,rfl⟩) (G' 5 rfl (AG.i hC rfl rfl (fun hg=>⟨hg,trivial⟩) (fun hw=>⟨U0 (I1 hw hx6),A0.idx (I1 hw hx6),rfl⟩) (a1' rfl (a1' rfl (a1' rfl (po' rfl (an' (n' (ci' rfl hh (fun hh=>?_) (fun hh=>?_)))))))))))))
   ·cases hh
    exact p' 1 rfl (E0.s hC rfl (e' rfl (re' (rt' rfl rfl rfl))))
   obtain ⟨x7,hx7,hh⟩:=bs' hh
   obtain ⟨x8,hx8,hh⟩:=bs' hh
   cases hh
   exact sk' (p' 1 rfl (i' rfl (U0 hx7) (A0.idx hx7) rfl (o' 2 rfl (i' rfl (U0 hx8) (A0.idx hx8) rfl (q' rfl (E0.s hC rfl (e' rfl (re' (rt' rfl rfl rfl)))))))))
  obtain ⟨x9,hx9,hh⟩:=bs' hh
  cases hh
  exact sk' (p' 3 rfl (E0.cl rfl (O1b hx9) ⟨.rfl,.osl,trivial⟩ rfl (o' 2 rfl (E0.s hC rfl (e' rfl (re' (rt' rfl rfl rfl)))))))
theorem Aq {s e res}(hh:I9 s e=some res):P1b s e res:=(O1l s).1 _ _ hh
def Bq (e:D0):Option Bool:=
 some (bif (bif (e.Op == 3) then true else (e.Op == 4)) then true else (e.Op == 5))
theorem M1g {e res}(hh:Bq e=some res):L0 C 139 [.agg (D0.cells e)] [] (Ret [] (.d (.bool res))):=by
 unfold Bq at hh
 cases hh
 refine L0.intro hC Tryz.func139 rfl rfl rfl (s' rfl rfl (E0.n hC rfl (e' rfl (sg' 14 rfl (G' 5 rfl (a1' rfl (a1' rfl (po' rfl (G' 2 rfl (a1' rfl (a1' rfl (po' rfl (a0' rfl ?_)))))))))))))
 exact an' (n' (re' (rt' rfl rfl rfl)))
def Ua (s:A0)(place:Bool)(t:A0):Option Bool:=
 X6 s>>=fun x1=>
 (if (!x1)=true then X6 t else some default)>>=fun x2=>
 if (bif x1 then true else x2)=true then
  some (s.Kind == t.Kind)
 else
  (if place=true then T7 s t else some default)>>=fun x3=>
  some (bif place then x3 else false)
theorem Nm {s place t res}(hh:Ua s place t=some res):L0 C 138 [.agg (A0.cells s),.d (.bool place),.agg (A0.cells t)] [] (Ret [] (.d (.bool res))):=by
 unfold Ua at hh
 obtain ⟨x1,hx1,hh⟩:=bs' hh
 obtain ⟨x2,hx2,hh⟩:=bs' hh
 refine L0.intro hC Tryz.func138 rfl rfl rfl (s' rfl rfl (E0.n hC rfl (E0.n hC rfl (e' rfl (S' (sg' 6 rfl (a0' rfl (AG.c rfl rfl (fun _=>trivial) (fun _=>Ri hx1) (G' 2 rfl (AG.c rfl rfl (fun hg=>⟨hg,trivial⟩) (fun hw=>Ri (I1 hw hx2)) (po' rfl (an' (n' (ci' rfl hh (fun hh=>?_) (fun hh=>?_)))))))))))))))
 ·cases hh
  exact t' rfl (re' (rt' rfl rfl rfl))
 obtain ⟨x3,hx3,hh⟩:=bs' hh
 cases hh
 exact sk' (sg' 7 rfl (G' 4 rfl (AG.c rfl rfl (fun hg=>⟨hg,hg,trivial⟩) (fun hw=>Kv (I1 hw hx3)) (pa' rfl (a0' rfl (an' (n' (re' (rt' rfl rfl rfl)))))))))
def Yb (s:T0)(e:D0)(t:A0):Option Int:=
 I9 s e>>=fun x1=>
 if (x1.2 != 0)=true then
  some x1.2
 else
  Bq e>>=fun x2=>
  Ua x1.1 x2 t>>=fun x3=>
  if (!x3)=true then
   some 9
  else
   some 0
theorem Ro {s e t res}(hh:Yb s e t=some res):L0 C 76 [.agg (T0.cells s),.agg (D0.cells e),.agg (A0.cells t)] [] (Ret [] (.d (.int .i64 res))):=by
 unfold Yb at hh
 obtain ⟨x1,hx1,hh⟩:=bs' hh
 refine L0.intro hC Tryz.func76 rfl rfl rfl (s' rfl rfl (E0.n hC rfl (E0.n hC rfl (E0.n hC rfl (e' rfl (p' 2 rfl (c' (Aq hx1) rfl rfl (o' 3 rfl (E0.nf hC rfl (E0.s hC rfl (e' rfl (S' (t' rfl (ci' rfl hh (fun hh=>?_) (fun hh=>?_)))))))))))))))
 ·cases hh
  exact t' rfl (re' (rt' rfl rfl rfl))
 obtain ⟨x2,hx2,hh⟩:=bs' hh
 obtain ⟨x3,hx3,hh⟩:=bs' hh
 refine sk' (S' (S' (AEx.draw hC 6 rfl rfl rfl (O' 2 rfl (Qc' (M1g hx2) rfl rfl (Q' rfl (Qc' (Nm hx3) rfl rfl (E' rfl (n' (ci' rfl hh (fun hh=>?_) (fun hh=>?_)))))))))))
 ·cases hh
  exact t' rfl (re' (rt' rfl rfl rfl))
 cases hh
 exact sk' (t' rfl (re' (rt' rfl rfl rfl)))
def W7 (p:F0)(i:Int)(o3_Vars:List J0)(o3_Taken:List Str)(x1:B0)(k:Int):Option (T0×Int):=
 if (decide (k < ((x1.Params++x1.Vars).length:Int)))=true then
  idx (x1.Params++x1.Vars) k>>=fun x3=>
  U8 p i x3.TypeV>>=fun x4=>
  if (x4.2 != 0)=true then
   some ((T0.mk (F0.mk [] []) 0 [] []),x4.2)
  else
   idx (x1.Params++x1.Vars) k>>=fun x5=>
   if (decide ((o3_Vars.length+1) * 121≤140737488355328))=true then
    idx (x1.Params++x1.Vars) k>>=fun x6=>
    if (decide ((o3_Taken.length+1) * 17≤140737488355328))=true then
     W7 p i (o3_Vars++[(J0.mk x5.Name x4.1 false)]) (o3_Taken++[x6.Name]) x1 (IntKind.i64.wrap (k+1))
    else none
   else none
 else
  some ((T0.mk p i o3_Vars o3_Taken),0)
 partial_fixpoint
abbrev Dx (p:F0)(i:Int)(o3_Vars:List J0)(o3_Taken:List Str)(x1:B0)(k:Int)(res:T0×Int):Prop:=LM C 73 0 Tryz.f140 [1,1,1,1,0,1,4] [(1,.d (.int .i64 i)),(2,.ref 0 0),(4,.ref 1 0),(7,.ref 3 0),(8,.osl 7 (B0.rows (x1.Params++x1.Vars))),(9,.d (.int .i64 k))] [.row (F0.cells p) 25,.row [.full (B0.rows []),.full (C0.rows []),.d (.int .i64 0),.full (J0.rows []),.full (estr.rows [])] 78,.dead,.row [.d (.sl (B0.rows p.Decls)),.d (.sl (C0.rows p.Body)),.d (.int .i64 i),.osl 6 (J0.rows o3_Vars),.osl 5 (estr.rows o3_Taken)] 78,.dead,.tok 9 1,.tok 146 9,.tok 59 17] (Ret [] (.tup [.agg (T0.cells res.1),.d (.int .i64 res.2)]))
theorem H19 (p:F0)(i:Int)(x1:B0):(∀ o3_Vars o3_Taken k res,W7 p i o3_Vars o3_Taken x1 k=some res→Dx p i o3_Vars o3_Taken x1 k res):=by
 refine W7.partial_correctness p i x1 _ ?_
 ·intro g0 ih0 o3_Vars o3_Taken k res hh
  refine W0.unroll (S' (p' 2 rfl (qe' rfl trivial (B0.lenA _) (e' rfl (ci' rfl hh (fun hh=>?_) (fun hh=>?_))))))
  ·obtain ⟨x3,hx3,hh⟩:=bs' hh
   obtain ⟨x4,hx4,hh⟩:=bs' hh
   refine sk' (S' (bk' (S' ?_)))
   refine AEx.drawL hC 13 [12] [(11,8)] [[.row (F0.cells p) 25,.row [.full (B0.rows []),.full (C0.rows []),.d (.int .i64 0),.full (J0.rows []),.full (estr.rows [])] 78,.dead,.row [.d (.sl (B0.rows p.Decls)),.d (.sl (C0.rows p.Body)),.d (.int .i64 i),.osl 6 (J0.rows o3_Vars),.osl 5 (estr.rows o3_Taken)] 78,.dead,.tok 9 1,.tok 146 9,.tok 59 17,.row [.d (.int .i64 0),.d (.int .i64 0),.d (.int .i64 0),.d (.int .i64 0),.d (.str []),.full (estr.rows []),.full (A0.rows [])] 40],[.row (F0.cells p) 25,.row [.full (B0.rows []),.full (C0.rows []),.d (.int .i64 0),.full (J0.rows []),.full (estr.rows [])] 78,.dead,.row [.d (.sl (B0.rows p.Decls)),.d (.sl (C0.rows p.Body)),.d (.int .i64 i),.osl 6 (J0.rows o3_Vars),.osl 5 (estr.rows o3_Taken)] 78,.dead,.tok 9 1,.tok 146 9,.tok 59 17,.row (A0.cells x4.1) 40]] rfl rfl rfl rfl rfl rfl rfl rfl rfl rfl ?_
   refine AS.q hC rfl rfl rfl rfl (AS.q hC rfl rfl rfl rfl (AS.q hC rfl rfl rfl rfl (AS.q hC rfl rfl rfl rfl (AS.ix hC rfl (U0 hx3) (B0.idx hx3) rfl rfl rfl (AS.q hC rfl rfl rfl rfl (AS.q hC rfl rfl rfl rfl (AS.c (Hc hx4) rfl rfl rfl rfl (AS.q hC rfl rfl rfl rfl (AS.q hC rfl rfl rfl rfl (AS.q hC rfl rfl rfl rfl (AS.n hC rfl rfl rfl rfl (AS.s hC rfl rfl rfl rfl rfl rfl rfl (AS.nil ?_)))))))))))))
   refine e' rfl (S' (t' rfl (ci' rfl hh (fun hh=>?_) (fun hh=>?_))))
   ·refine s' rfl rfl (E0.bz hC rfl (q' rfl (E0.s hC rfl (e' rfl (re' ?_)))))
    obtain rfl:=oi' hh
    exact ⟨_,.tup [.agg [.d (.sl (B0.rows [])),.d (.sl (C0.rows [])),.d (.int .i64 0),.d (.sl (J0.rows [])),.d (.sl (estr.rows []))],.d (.int .i64 x4.2)],[],rfl,(.tupL ⟨(.aggL ⟨.full,.full,.rfl,.full,.full,trivial⟩),.rfl,trivial⟩),trivial,rfl,rfl,rfl,rfl⟩
   obtain ⟨x5,hx5,hh⟩:=bs' hh
   obtain ⟨c32,hh⟩:=G1 hh
   obtain ⟨x6,hx6,hh⟩:=bs' hh
   obtain ⟨c33,hh⟩:=G1 hh
   refine sk' (S' (AEx.draw hC 10 rfl rfl rfl (O' 4 rfl (AQ.i hC rfl (U0 hx5) (B0.idx hx5) rfl (O' 4 rfl (AQ.be hC rfl (J0.rows_map [(J0.mk x5.Name x4.1 false)]).symm (Qn' ?_)))))))
   refine E0.ap hC rfl (rs:=J0.rows (o3_Vars++[(J0.mk x5.Name x4.1 false)])) (J0.app o3_Vars [(J0.mk x5.Name x4.1 false)]) (J0.sz o3_Vars) (J0.sz [(J0.mk x5.Name x4.1 false)]) (X3 (J0.len o3_Vars) (J0.len [(J0.mk x5.Name x4.1 false)]) c32) (q' rfl (E0.s hC rfl (n' ?_)))
   refine AEx.draw hC 8 rfl rfl rfl (O' 4 rfl (AQ.i hC rfl (U0 hx6) (B0.idx hx6) rfl (O' 2 rfl (AQ.be hC rfl (estr.rows_map [x6.Name]).symm (Qn' (E0.ap hC rfl (rs:=estr.rows (o3_Taken++[x6.Name])) (estr.app o3_Taken [x6.Name]) (estr.sz o3_Taken) (estr.sz [x6.Name]) (X3 (estr.len o3_Taken) (estr.len [x6.Name]) c33) (q' rfl (E0.s hC rfl (n' (T' rfl ?_))))))))))
   refine W0.wk ?_ (ih0 _ _ _ _ hh)
   exact ⟨⟨⟨.rfl,rfl⟩,⟨.rfl,rfl⟩,⟨.rfl,rfl⟩,⟨.rfl,rfl⟩,⟨.rfl,rfl⟩,⟨.rfl,rfl⟩,trivial⟩,⟨⟨rfl,.refl _,rfl⟩,⟨rfl,.refl _,rfl⟩,trivial,⟨rfl,.refl _,rfl⟩,trivial,rfl,rfl,rfl,trivial⟩,rfl⟩
  refine ex' (p' 1 rfl (E0.s hC rfl (e' rfl (re' ?_))))
  obtain rfl:=oi' hh
  exact ⟨_,.tup [.agg [.d (.sl (B0.rows p.Decls)),.d (.sl (C0.rows p.Body)),.d (.int .i64 i),.d (.sl (J0.rows o3_Vars)),.d (.sl (estr.rows o3_Taken))],.d (.int .i64 0)],[],rfl,(.tupL ⟨(.aggL ⟨.rfl,.rfl,.rfl,.osl,.osl,trivial⟩),.rfl,trivial⟩),trivial,rfl,rfl,rfl,rfl⟩
theorem Q1b {p i o3_Vars o3_Taken x1 k res}(hh:W7 p i o3_Vars o3_Taken x1 k=some res):Dx p i o3_Vars o3_Taken x1 k res:=(H19 p i x1) _ _ _ _ hh
def Kk (p:F0)(i:Int):Option (T0×Int):=
 idx p.Decls i>>=fun x1=>
 Im p>>=fun x2=>
 if (decide ((0+x1.Params.length) * 257≤140737488355328))=true then
  if (decide ((x1.Params.length+x1.Vars.length) * 257≤140737488355328))=true then
   W7 p i [] x2 x1 0
  else none
 else none
theorem N1j {p i res}(hh:Kk p i=some res):L0 C 140 [.agg (F0.cells p),.d (.int .i64 i)] [] (Ret [] (.tup [.agg (T0.cells res.1),.d (.int .i64 res.2)])):=by
 unfold Kk at hh
 obtain ⟨x1,hx1,hh⟩:=bs' hh
 obtain ⟨x2,hx2,hh⟩:=bs' hh
 obtain ⟨c30,hh⟩:=G1 hh
 obtain ⟨c31,hh⟩:=G1 hh
 refine L0.intro hC Tryz.func140 rfl rfl rfl (s' rfl rfl (E0.n hC rfl (E0.nf hC rfl (e' rfl (p' 3 rfl (i' rfl (U0 hx1) (B0.idx hx1) rfl (q' rfl (E0.nf hC rfl (E0.s hC rfl (n' (S' ?_)))))))))))
 refine AEx.drawL hC 6 [3] [(5,3)] [[.row (F0.cells p) 25,.row [.full (B0.rows []),.full (C0.rows []),.d (.int .i64 0),.full (J0.rows []),.full (estr.rows [])] 78,.row (B0.cells x1) 59,.row [.full (B0.rows []),.full (C0.rows []),.d (.int .i64 0),.full (J0.rows []),.full (estr.rows [])] 78],[.row (F0.cells p) 25,.row [.full (B0.rows []),.full (C0.rows []),.d (.int .i64 0),.full (J0.rows []),.full (estr.rows [])] 78,.row (B0.cells x1) 59,.row [.full (B0.rows []),.full (C0.rows []),.d (.int .i64 0),.full (J0.rows []),.full (estr.rows [])] 78,.dead,.tok 9 1]] rfl rfl rfl rfl rfl rfl rfl rfl rfl rfl ?_
 refine AS.q hC rfl rfl rfl rfl (AS.q hC rfl rfl rfl rfl (AS.q hC rfl rfl rfl rfl (AS.g [] (Eu hx2) rfl rfl rfl rfl rfl rfl rfl rfl rfl rfl rfl rfl (AS.a rfl (fun H=>AQ.bz hC rfl (AQ.nil rfl)) rfl rfl (AS.n hC rfl rfl rfl rfl (AS.nil (E0.s hC rfl (E0.tokC 3 3 146 9 rfl rfl rfl rfl rfl (n' (S' ?_))))))))))
 refine AEx.drawL hC 6 [3] [] [[.row (F0.cells p) 25,.row [.full (B0.rows []),.full (C0.rows []),.d (.int .i64 0),.full (J0.rows []),.full (estr.rows [])] 78,.row (B0.cells x1) 59,.row [.d (.sl (B0.rows p.Decls)),.d (.sl (C0.rows p.Body)),.d (.int .i64 i),.osl 6 (J0.rows []),.osl 5 (estr.rows x2)] 78,.dead,.tok 9 1,.tok 146 9],[.row (F0.cells p) 25,.row [.full (B0.rows []),.full (C0.rows []),.d (.int .i64 0),.full (J0.rows []),.full (estr.rows [])] 78,.row (B0.cells x1) 59,.row [.d (.sl (B0.rows p.Decls)),.d (.sl (C0.rows p.Body)),.d (.int .i64 i),.osl 6 (J0.rows []),.osl 5 (estr.rows x2)] 78,.dead,.tok 9 1,.tok 146 9,.tok 59 17]] rfl rfl rfl rfl rfl rfl rfl rfl rfl rfl ?_
 refine AS.a rfl (fun H=>AQ.be hC rfl (B0.rows_map []).symm (AQ.nil rfl)) rfl rfl (AS.q hC rfl rfl rfl rfl (AS.q hC rfl rfl rfl rfl (AS.am hC rfl rfl rfl rfl rfl (rs:=B0.rows x1.Params) rfl (B0.sz []) (B0.sz x1.Params) (X3 (B0.len []) (B0.len x1.Params) c30) rfl rfl (AS.q hC rfl rfl rfl rfl (AS.q hC rfl rfl rfl rfl (AS.nil ?_))))))
 refine E0.ap hC rfl (rs:=B0.rows (x1.Params++x1.Vars)) (B0.app x1.Params x1.Vars) (B0.sz x1.Params) (B0.sz x1.Vars) (X3 (B0.len x1.Params) (B0.len x1.Vars) c31) (e' rfl (S' (t' rfl (bk' ?_))))
 refine AEx.ofLoop ?_
 refine W0.wk ?_ (Q1b hh)
 exact ⟨⟨⟨.rfl,rfl⟩,⟨.rfl,rfl⟩,⟨.rfl,rfl⟩,⟨.rfl,rfl⟩,⟨.rfl,rfl⟩,⟨.rfl,rfl⟩,trivial⟩,⟨⟨rfl,.refl _,rfl⟩,⟨rfl,.refl _,rfl⟩,trivial,⟨rfl,.refl _,rfl⟩,trivial,rfl,rfl,rfl,trivial⟩,rfl⟩
def Jl (e:D0):Option Str:=
 if (bif (e.Op == 3) then true else (((e.Kids).length:Int) == 0))=true then
  some e.Name
 else
  idx e.Kids 0>>=fun x1=>
  Jl x1>>=fun x2=>
  some x2
 partial_fixpoint
abbrev R1b (e:D0)(res:Str):Prop:=L0 C 194 [.agg (D0.cells e)] [] (Ret [] (.d (.str res)))
theorem P1l:(∀ e res,Jl e=some res→R1b e res):=by
 refine Jl.partial_correctness _ ?_
 ·intro g0 ih0 e res hh
  refine L0.intro hC Tryz.func194 rfl rfl rfl (s' rfl rfl (E0.n hC rfl (e' rfl (S' (sg' 9 rfl (G' 5 rfl (a1' rfl (AG.qe hC rfl (fun hg=>⟨⟨hg,trivial⟩,trivial⟩) (D0.lenA _) (a1' rfl (po' rfl (an' (n' (ci' rfl hh (fun hh=>?_) (fun hh=>?_))))))))))))))
  ·cases hh
   exact t' rfl (re' (rt' rfl rfl rfl))
  obtain ⟨x1,hx1,hh⟩:=bs' hh
  obtain ⟨x2,hx2,hh⟩:=bs' hh
  cases hh
  exact sk' (p' 2 rfl (i' rfl (U0 hx1) (D0.idx hx1) rfl (q' rfl (c' (ih0 _ _ hx2) rfl rfl (e' rfl (re' (rt' rfl rfl rfl)))))))
theorem E1o {e res}(hh:Jl e=some res):R1b e res:=(P1l) _ _ hh
def Gj (s:T0)(e:D0):Option (A0×Int):=
 I9 s e>>=fun x1=>
 if (x1.2 != 0)=true then
  some ((A0.mk 0 0 0 0 [] [] []),x1.2)
 else
  Jl e>>=fun x2=>
  Bg s x2>>=fun x3=>
  if x3.1.Fixed=true then
   some ((A0.mk 0 0 0 0 [] [] []),15)
  else
   some (x1.1,0)
theorem Fu {s e res}(hh:Gj s e=some res):L0 C 141 [.agg (T0.cells s),.agg (D0.cells e)] [] (Ret [] (.tup [.agg (A0.cells res.1),.d (.int .i64 res.2)])):=by
 unfold Gj at hh
 obtain ⟨x1,hx1,hh⟩:=bs' hh
 refine L0.intro hC Tryz.func141 rfl rfl rfl (s' rfl rfl (E0.n hC rfl (E0.n hC rfl (E0.nf hC rfl (e' rfl (p' 2 rfl (c' (Aq hx1) rfl rfl (o' 3 rfl (E0.nf hC rfl (E0.s hC rfl (e' rfl (S' (t' rfl (ci' rfl hh (fun hh=>?_) (fun hh=>?_)))))))))))))))
 ·cases hh
  exact p' 2 rfl (E0.s hC rfl (e' rfl (re' (rt' rfl rfl rfl))))
 obtain ⟨x2,hx2,hh⟩:=bs' hh
 obtain ⟨x3,hx3,hh⟩:=bs' hh
 refine sk' (S' ?_)
 refine AEx.drawL hC 9 [8] [(7,4)] [[.row (T0.cells s) 78,.row (D0.cells e) 34,.row [.d (.int .i64 0),.d (.int .i64 0),.d (.int .i64 0),.d (.int .i64 0),.d (.str []),.full (estr.rows []),.full (A0.rows [])] 40,.row (A0.cells x1.1) 40,.row [.d (.str []),.d (.int .i64 0),.d (.int .i64 0),.d (.int .i64 0),.d (.int .i64 0),.d (.str []),.full (estr.rows []),.full (A0.rows []),.d (.bool false)] 146],[.row (T0.cells s) 78,.row (D0.cells e) 34,.row [.d (.int .i64 0),.d (.int .i64 0),.d (.int .i64 0),.d (.int .i64 0),.d (.str []),.full (estr.rows []),.full (A0.rows [])] 40,.row (A0.cells x1.1) 40,.row (J0.cells x3.1) 146]] rfl rfl rfl rfl rfl rfl rfl rfl rfl rfl ?_
 refine AS.q hC rfl rfl rfl rfl (AS.q hC rfl rfl rfl rfl (AS.c (E1o hx2) rfl rfl rfl rfl (AS.c (P17 hx3) rfl rfl rfl rfl (AS.q hC rfl rfl rfl rfl (AS.q hC rfl rfl rfl rfl (AS.q hC rfl rfl rfl rfl (AS.n hC rfl rfl rfl rfl (AS.s hC rfl rfl rfl rfl rfl rfl rfl (AS.nil (e' rfl (S' (t' rfl (ci' rfl hh (fun hh=>?_) (fun hh=>?_))))))))))))))
 ·cases hh
  exact p' 1 rfl (E0.s hC rfl (e' rfl (re' (rt' rfl rfl rfl))))
 cases hh
 exact sk' (p' 1 rfl (E0.s hC rfl (e' rfl (re' (rt' rfl rfl rfl)))))
def N7 (p:F0)(kind:Int)(name:Str)(n:Int)(i:Int):Option Int:=
 if (decide (i < n))=true then
  idx p.Decls i>>=fun x1=>
  (if (x1.Kind == kind)=true then idx p.Decls i else some default)>>=fun x2=>
  if (bif (x1.Kind == kind) then (x2.Name == name) else false)=true then
   some i
  else
   N7 p kind name n (IntKind.i64.wrap (i+1))
 else
  some (-1)
 partial_fixpoint
abbrev Ot (p:F0)(kind:Int)(name:Str)(n:Int)(i:Int)(res:Int):Prop:=LM C 34 0 Tryz.f166 [1,0,1,4] [(1,.d (.int .i64 kind)),(2,.d (.str name)),(3,.d (.int .i64 n)),(4,.ref 0 0),(9,.d (.int .i64 i))] [.row (F0.cells p) 25] (Ret [] (.d (.int .i64 res)))
theorem L14 (p:F0)(kind:Int)(name:Str)(n:Int):(∀ i res,N7 p kind name n i=some res→Ot p kind name n i res):=by
 refine N7.partial_correctness p kind name n _ ?_
 ·intro g0 ih0 i res hh
  refine W0.unroll (S' (t' rfl (ci' rfl hh (fun hh=>?_) (fun hh=>?_))))
  ·obtain ⟨x1,hx1,hh⟩:=bs' hh
   obtain ⟨x2,hx2,hh⟩:=bs' hh
   refine sk' (S' (bk' (sg' 18 rfl (G' 3 rfl (AG.i hC rfl rfl (fun _=>trivial) (fun hw=>⟨U0 hx1,B0.idx hx1,rfl⟩) (G' 6 rfl (a1' rfl (a0' rfl (AG.i hC rfl rfl (fun hg=>⟨hg,hg,trivial⟩) (fun hw=>⟨U0 (I1 hw hx2),B0.idx (I1 hw hx2),rfl⟩) (a1' rfl (a1' rfl (a0' rfl (a2' rfl ?_)))))))))))))
   refine pa' rfl (an' (n' (ci' rfl hh (fun hh=>?_) (fun hh=>?_))))
   ·cases hh
    exact t' rfl (re' (rt' rfl rfl rfl))
   exact sk' (T' rfl (lw' (ih0 _ _ hh) rfl rfl rfl))
  cases hh
  exact ex' (t' rfl (re' (rt' rfl rfl rfl)))
theorem T16 {p kind name n i res}(hh:N7 p kind name n i=some res):Ot p kind name n i res:=(L14 p kind name n) _ _ hh
end Go.Proofs.YtdkabnfphmmmnaaGreatDoor

