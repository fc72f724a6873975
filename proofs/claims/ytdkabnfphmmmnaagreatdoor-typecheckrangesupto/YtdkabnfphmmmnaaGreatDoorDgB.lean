/- A part of the proof of TypecheckRanges. -/
import Derived.Test.YtdkabnfphmmmnaaGreatDoorDgA
set_option maxRecDepth 100000
set_option maxHeartbeats 4000000
set_option synthInstance.maxSize 20000
set_option linter.unusedVariables false
namespace Go.Proofs.YtdkabnfphmmmnaaGreatDoor
open Go.Am
mutual
def F2 (c:N0)(m0:List (Int×Int))(scalars:Int)(hatches1:Int)(v23:Int):Option Int:=
 if (decide (v23 < ((c.p.Decls).length:Int)))=true then
  idx c.p.Decls v23>>=fun x1=>
  some (Z7 x1.Kind m0)>>=fun x2=>
  if (x1.Kind == 5)=true then
   H6 c m0 x1 scalars (IntKind.i64.wrap (hatches1+1)) v23 x2 v23
  else
   H6 c m0 x1 scalars hatches1 v23 x2 v23
 else
  Nf c.p>>=fun x5=>
  if (decide (scalars > 64))=true then
   if (decide (scalars > 64))=true then
    some 4
   else
    some 0
  else
   if (decide (hatches1 > 8))=true then
    if (decide (hatches1 > 8))=true then
     some 4
    else
     some 0
   else
    some (Z7 1 m0)>>=fun x6=>
    if (decide ((x6.getD ei64.zero) > 4096))=true then
     if (decide ((x6.getD ei64.zero) > 4096))=true then
      some 4
     else
      some 0
    else
     some (Z7 2 m0)>>=fun x7=>
     if (decide ((x7.getD ei64.zero) > 4096))=true then
      if (decide ((x7.getD ei64.zero) > 4096))=true then
       some 4
      else
       some 0
     else
      some (Z7 3 m0)>>=fun x8=>
      if (decide ((x8.getD ei64.zero) > 256))=true then
       if (decide ((x8.getD ei64.zero) > 256))=true then
        some 4
       else
        some 0
      else
       if (decide (x5.steps > 4096))=true then
        if (decide (x5.steps > 4096))=true then
         some 4
        else
         some 0
       else
        if (decide (x5.outputs > 8))=true then
         some 4
        else
         some 0
 partial_fixpoint
def H6 (c:N0)(m01:List (Int×Int))(x1:B0)(scalars1:Int)(hatches:Int)(i:Int)(x2:Option Int)(v231:Int):Option Int:=
 if (bif (!x2.isSome) then (x1.Kind != 4) else false)=true then
  F2 c m01 scalars1 hatches (IntKind.i64.wrap (v231+1))
 else
  X2 c x1.TypeV i>>=fun x3=>
  Xl x3>>=fun x4=>
  U3 c m01 x1 (IntKind.i64.wrap (scalars1+((x4.1).length:Int))) hatches (x2.getD ei64.zero) x2 v231 x4 0
 partial_fixpoint
def U3 (c:N0)(m02:List (Int×Int))(x1:B0)(scalars2:Int)(hatches:Int)(n:Int)(x2:Option Int)(v231:Int)(x4:List R0×Int)(v62:Int):Option Int:=
 if (decide (v62 < ((x4.1).length:Int)))=true then
  idx x4.1 v62>>=fun x9=>
  if x2.isSome=true then
   We n (IntKind.i64.wrap ((IntKind.i64.wrap (x9.High - x9.Low))+1))>>=fun x10=>
   U3 c m02 x1 scalars2 hatches x10 x2 v231 x4 (IntKind.i64.wrap (v62+1))
  else
   U3 c m02 x1 scalars2 hatches n x2 v231 x4 (IntKind.i64.wrap (v62+1))
 else
  if x2.isSome=true then
   F2 c (Kr x1.Kind n m02) scalars2 hatches (IntKind.i64.wrap (v231+1))
  else
   F2 c m02 scalars2 hatches (IntKind.i64.wrap (v231+1))
 partial_fixpoint
end
abbrev Mj (c:N0)(m0:List (Int×Int))(scalars:Int)(hatches1:Int)(v23:Int)(res:Int):Prop:=LM C 107 0 Tryz.f33 [1,1,1,0,1,4] [(0,.d (.box (N0.row c))),(3,.d (.int .i64 scalars)),(4,.d (.int .i64 hatches1)),(5,.mp 0),(21,.d (.sl (B0.rows c.p.Decls))),(22,.d (.int .i64 ((c.p.Decls).length:Int))),(23,.d (.int .i64 v23))] [.map (.i .i64 (ei64.entsI m0))] (Ret [] (.d (.int .i64 res)))
abbrev Ft (c:N0)(m01:List (Int×Int))(x1:B0)(scalars1:Int)(hatches:Int)(i:Int)(x2:Option Int)(v231:Int)(res:Int):Prop:=JM C 107 0 Tryz.f33 [1,1,1,0,1,4,5,1,1,0,4,1,1,1] [(0,.d (.box (N0.row c))),(3,.d (.int .i64 scalars1)),(4,.d (.int .i64 hatches)),(5,.mp 0),(6,.d (.int .i64 i)),(7,.ref 1 0),(8,.d (.int .i64 (x2.getD ei64.zero))),(9,.d (.bool x2.isSome)),(21,.d (.sl (B0.rows c.p.Decls))),(22,.d (.int .i64 ((c.p.Decls).length:Int))),(23,.d (.int .i64 v231))] [.map (.i .i64 (ei64.entsI m01)),.row (B0.cells x1) 59] (Ret [] (.d (.int .i64 res)))
abbrev Gt (c:N0)(m02:List (Int×Int))(x1:B0)(scalars2:Int)(hatches:Int)(n:Int)(x2:Option Int)(v231:Int)(x4:List R0×Int)(v62:Int)(res:Int):Prop:=LM C 107 0 Tryz.f33 [1,1,1,0,1,4,5,1,1,0,4,1,1,1,1,1,1,0,1,4] [(0,.d (.box (N0.row c))),(3,.d (.int .i64 scalars2)),(4,.d (.int .i64 hatches)),(5,.mp 0),(7,.ref 1 0),(8,.d (.int .i64 n)),(9,.d (.bool x2.isSome)),(21,.d (.sl (B0.rows c.p.Decls))),(22,.d (.int .i64 ((c.p.Decls).length:Int))),(23,.d (.int .i64 v231)),(60,.d (.sl (R0.rows x4.1))),(61,.d (.int .i64 ((x4.1).length:Int))),(62,.d (.int .i64 v62))] [.map (.i .i64 (ei64.entsI m02)),.row (B0.cells x1) 59] (Ret [] (.d (.int .i64 res)))
theorem Br (c:N0):(∀ m0 scalars hatches1 v23 res,F2 c m0 scalars hatches1 v23=some res→Mj c m0 scalars hatches1 v23 res)∧(∀ m01 x1 scalars1 hatches i x2 v231 res,H6 c m01 x1 scalars1 hatches i x2 v231=some res→Ft c m01 x1 scalars1 hatches i x2 v231 res)∧(∀ m02 x1 scalars2 hatches n x2 v231 x4 v62 res,U3 c m02 x1 scalars2 hatches n x2 v231 x4 v62=some res→Gt c m02 x1 scalars2 hatches n x2 v231 x4 v62 res):=by
 refine F2.mutual_partial_correctness c _ _ _ ?_ ?_ ?_
 ·intro g1 ih1 m0 scalars hatches1 v23 res hh
  refine W0.unroll (t' rfl (S' (ci' rfl hh (fun hh=>?_) (fun hh=>?_))))
  ·obtain ⟨x1,hx1,hh⟩:=bs' hh
   obtain ⟨x2,hx2,hh⟩:=bs' hh
   refine sk' (S' (bk' (p' 1 rfl (i' rfl (U0 hx1) (B0.idx hx1) rfl (q' rfl (E0.nf hC rfl (q' rfl (E0.s hC rfl (n' (p' 3 rfl (E0.mi hC rfl (ei64.lkIT hx2) (e' rfl (S' ?_)))))))))))))
   refine t' rfl (ci' rfl hh (fun hh=>?_) (fun hh=>?_))
   ·exact T' rfl (ew' (ih1 _ _ _ _ _ _ _ _ hh) rfl rfl rfl)
   exact sk' (ew' (ih1 _ _ _ _ _ _ _ _ hh) rfl rfl rfl)
  obtain ⟨x5,hx5,hh⟩:=bs' hh
  refine ex' (p' 4 rfl (c' (Wr hx5) rfl rfl (E0.n hC rfl (E0.s hC rfl (n' (S' (bk' (S' (t' rfl (ci' rfl hh (fun hh=>?_) (fun hh=>?_)))))))))))
  ·refine sk' (ci' rfl hh (fun hh=>?_) (fun hh=>?_))
   ·cases hh
    exact t' rfl (re' (rt' rfl rfl rfl))
   cases hh
   exact sk' (t' rfl (re' (rt' rfl rfl rfl)))
  refine t' rfl (ci' rfl hh (fun hh=>?_) (fun hh=>?_))
  ·refine sk' (ci' rfl hh (fun hh=>?_) (fun hh=>?_))
   ·cases hh
    exact t' rfl (re' (rt' rfl rfl rfl))
   cases hh
   exact sk' (t' rfl (re' (rt' rfl rfl rfl)))
  obtain ⟨x6,hx6,hh⟩:=bs' hh
  refine p' 1 rfl (E0.mi hC rfl (ei64.lkI hx6) (e' rfl (ci' rfl hh (fun hh=>?_) (fun hh=>?_))))
  ·refine sk' (ci' rfl hh (fun hh=>?_) (fun hh=>?_))
   ·cases hh
    exact t' rfl (re' (rt' rfl rfl rfl))
   cases hh
   exact sk' (t' rfl (re' (rt' rfl rfl rfl)))
  obtain ⟨x7,hx7,hh⟩:=bs' hh
  refine p' 1 rfl (E0.mi hC rfl (ei64.lkI hx7) (e' rfl (ci' rfl hh (fun hh=>?_) (fun hh=>?_))))
  ·refine sk' (ci' rfl hh (fun hh=>?_) (fun hh=>?_))
   ·cases hh
    exact t' rfl (re' (rt' rfl rfl rfl))
   cases hh
   exact sk' (t' rfl (re' (rt' rfl rfl rfl)))
  obtain ⟨x8,hx8,hh⟩:=bs' hh
  refine p' 1 rfl (E0.mi hC rfl (ei64.lkI hx8) (e' rfl (ci' rfl hh (fun hh=>?_) (fun hh=>?_))))
  ·refine sk' (ci' rfl hh (fun hh=>?_) (fun hh=>?_))
   ·cases hh
    exact t' rfl (re' (rt' rfl rfl rfl))
   cases hh
   exact sk' (t' rfl (re' (rt' rfl rfl rfl)))
  refine t' rfl (ci' rfl hh (fun hh=>?_) (fun hh=>?_))
  ·refine sk' (ci' rfl hh (fun hh=>?_) (fun hh=>?_))
   ·cases hh
    exact t' rfl (re' (rt' rfl rfl rfl))
   cases hh
   exact sk' (t' rfl (re' (rt' rfl rfl rfl)))
  refine T' rfl (ci' rfl hh (fun hh=>?_) (fun hh=>?_))
  ·cases hh
   exact t' rfl (re' (rt' rfl rfl rfl))
  cases hh
  exact sk' (t' rfl (re' (rt' rfl rfl rfl)))
 ·intro g0 g2 ih0 ih2 m01 x1 scalars1 hatches i x2 v231 res hh
  refine S' (sg' 7 rfl (G' 4 rfl (a1' rfl (a1' rfl (pa' rfl (an' (n' (ci' rfl hh (fun hh=>?_) (fun hh=>?_)))))))))
  ·exact ex' (T' rfl (lw' (ih0 _ _ _ _ _ hh) rfl rfl rfl))
  obtain ⟨x3,hx3,hh⟩:=bs' hh
  obtain ⟨x4,hx4,hh⟩:=bs' hh
  exact sk' (p' 4 rfl (c' (P5 hx3) rfl rfl (c' (X1f hx4) rfl rfl (e' rfl (p' 2 rfl (qe' rfl trivial (R0.lenA _) (e' rfl (S' (p' 1 rfl (qe' rfl trivial (R0.lenA _) (e' rfl (bk' (fw' (ih2 _ _ _ _ _ _ _ _ _ _ hh) rfl rfl rfl)))))))))))))
 ·intro g0 g2 ih0 ih2 m02 x1 scalars2 hatches n x2 v231 x4 v62 res hh
  refine W0.unroll (t' rfl (S' (ci' rfl hh (fun hh=>?_) (fun hh=>?_))))
  ·obtain ⟨x9,hx9,hh⟩:=bs' hh
   refine sk' (S' (bk' (s' rfl rfl (i' rfl (U0 hx9) (R0.idx hx9) rfl (q' rfl (E0.n hC rfl (E0.s hC rfl (n' (t' rfl (ci' rfl hh (fun hh=>?_) (fun hh=>?_)))))))))))
   ·obtain ⟨x10,hx10,hh⟩:=bs' hh
    exact P' 7 rfl (c' (Nn hx10) rfl rfl (e' rfl (T' rfl (lw' (ih2 _ _ _ _ _ _ _ _ _ _ hh) rfl rfl rfl))))
   exact sk' (T' rfl (lw' (ih2 _ _ _ _ _ _ _ _ _ _ hh) rfl rfl rfl))
  refine ex' (t' rfl (ci' rfl hh (fun hh=>?_) (fun hh=>?_)))
  ·exact P' 4 rfl (E0.ui hC rfl (ei64.mputI _ n _) rfl (n' (T' rfl (lw' (ih0 _ _ _ _ _ hh) rfl rfl rfl))))
  exact sk' (T' rfl (lw' (ih0 _ _ _ _ _ hh) rfl rfl rfl))
theorem Xr {c m0 scalars hatches1 v23 res}(hh:F2 c m0 scalars hatches1 v23=some res):Mj c m0 scalars hatches1 v23 res:=(Br c).1 _ _ _ _ _ hh
def Bc (c:N0):Option Int:=
 F2 c (Kr 3 1 (Kr 2 1 (Kr 1 1 []))) 0 0 0
theorem Mv {c res}(hh:Bc c=some res):K0 C 33 [.d (.box (N0.row c))] [] (Ret [] (.d (.int .i64 res))):=by
 unfold Bc at hh
 exact K0.intro hC Tryz.func33 rfl rfl rfl (t' rfl (t' rfl (s' rfl rfl (E0.wi .i64 rfl (E0.ui hC rfl (ei64.mputI _ 1 []) rfl (E0.ui hC rfl (ei64.mputI _ 1 _) rfl (E0.ui hC rfl (ei64.mputI _ 1 _) rfl (e' rfl (S' (p' 5 rfl (qe' rfl trivial (B0.lenA _) (e' rfl (bk' (fw' (Xr hh) rfl rfl rfl))))))))))))))
def C5 (p:I0)(x3:N0)(v46:Int):Option (Int×Int):=
 if (decide (v46 < ((p.Decls).length:Int)))=true then
  Ha x3 v46>>=fun x5=>
  if (x5 != 0)=true then
   some (v46,x5)
  else
   C5 p x3 (IntKind.i64.wrap (v46+1))
 else
  M4 x3 ((p.Decls).length:Int) true>>=fun x6=>
  D2 x3 x6 p.Body true>>=fun x7=>
  if (x7 != 0)=true then
   some ((-1),x7)
  else
   Bc x3>>=fun x8=>
   some ((-1),x8)
 partial_fixpoint
abbrev Yr (p:I0)(x3:N0)(v46:Int)(res:Int×Int):Prop:=LM C 71 0 Tryz.f13 [1,1,1,1,1,0,1,4] [(1,.ref 0 0),(5,.d (.box (N0.row x3))),(45,.d (.int .i64 ((p.Decls).length:Int))),(46,.d (.int .i64 v46))] [.row (I0.cells p) 25] (Ret [] (.tup [.d (.int .i64 res.1),.d (.int .i64 res.2)]))
theorem I12 (p:I0)(x3:N0):(∀ v46 res,C5 p x3 v46=some res→Yr p x3 v46 res):=by
 refine C5.partial_correctness p x3 _ ?_
 ·intro g0 ih0 v46 res hh
  refine W0.unroll (t' rfl (S' (ci' rfl hh (fun hh=>?_) (fun hh=>?_))))
  ·obtain ⟨x5,hx5,hh⟩:=bs' hh
   refine sk' (S' (bk' (t' rfl (p' 2 rfl (c' (Wx hx5) rfl rfl (e' rfl (t' rfl (ci' rfl hh (fun hh=>?_) (fun hh=>?_)))))))))
   ·cases hh
    exact t' rfl (re' (rt' rfl rfl rfl))
   exact sk' (T' rfl (lw' (ih0 _ _ hh) rfl rfl rfl))
  obtain ⟨x6,hx6,hh⟩:=bs' hh
  obtain ⟨x7,hx7,hh⟩:=bs' hh
  refine ex' (S' (S' (AEx.draw hC 10 rfl rfl rfl (O' 4 rfl (AQ.qe hC rfl trivial (B0.lenA _) (Qc' (X0 hx6) rfl rfl (O' 2 rfl (Qc' (Vl hx7) rfl rfl (E' rfl (n' (t' rfl (ci' rfl hh (fun hh=>?_) (fun hh=>?_)))))))))))))
  ·cases hh
   exact t' rfl (re' (rt' rfl rfl rfl))
  obtain ⟨x8,hx8,hh⟩:=bs' hh
  cases hh
  exact sk' (p' 1 rfl (c' (Mv hx8) rfl rfl (e' rfl (re' (rt' rfl rfl rfl)))))
theorem T13 {p x3 v46 res}(hh:C5 p x3 v46=some res):Yr p x3 v46 res:=(I12 p x3) _ _ hh
def I6 (p:I0)(m1:List (Str×Bool))(v27:Int):Option (Int×Int):=
 if (decide (v27 < ((p.Decls).length:Int)))=true then
  idx p.Decls v27>>=fun x2=>
  I6 p (mpt x2.Name true m1) (IntKind.i64.wrap (v27+1))
 else
  some (N0.mk p ((p.Decls).length:Int) false m1)>>=fun x3=>
  G6 x3>>=fun x4=>
  if (decide (x4≥0))=true then
   some (x4,8)
  else
   C5 p x3 0
 partial_fixpoint
abbrev Zr (p:I0)(m1:List (Str×Bool))(v27:Int)(res:Int×Int):Prop:=LM C 71 0 Tryz.f13 [1,1,1,0,1,4] [(1,.ref 0 0),(5,.ref 2 0),(25,.d (.sl (B0.rows p.Decls))),(26,.d (.int .i64 ((p.Decls).length:Int))),(27,.d (.int .i64 v27))] [.row (I0.cells p) 25,.map (.s (ebool.ents m1)),.row [.d (.sl (B0.rows p.Decls)),.d (.sl (C0.rows p.Body)),.d (.int .i64 ((p.Decls).length:Int)),.d (.bool false),.mp 1] 66] (Ret [] (.tup [.d (.int .i64 res.1),.d (.int .i64 res.2)]))
theorem J12 (p:I0):(∀ m1 v27 res,I6 p m1 v27=some res→Zr p m1 v27 res):=by
 refine I6.partial_correctness p _ ?_
 ·intro g0 ih0 m1 v27 res hh
  refine W0.unroll (t' rfl (S' (ci' rfl hh (fun hh=>?_) (fun hh=>?_))))
  ·obtain ⟨x2,hx2,hh⟩:=bs' hh
   exact sk' (S' (bk' (s' rfl rfl (i' rfl (U0 hx2) (B0.idx hx2) rfl (q' rfl (E0.nf hC rfl (E0.s hC rfl (n' (AEx.draw hC 6 rfl rfl rfl (E' rfl (E0.ue hC rfl (ebool.mput _ true _) rfl (n' (T' rfl (lw' (ih0 _ _ _ hh) rfl rfl rfl))))))))))))))
  obtain ⟨x3,hx3,hh⟩:=bs' hh
  obtain ⟨x4,hx4,hh⟩:=bs' hh
  refine ex' (S' (p' 1 rfl (E0.fm 1 rfl rfl (E0.bx 2 (y:=.box (N0.row x3)) (by cases hx3; exact .inl rfl) rfl rfl rfl (c' (Tr hx4) rfl rfl (e' rfl (t' rfl (ci' rfl hh (fun hh=>?_) (fun hh=>?_)))))))))
  ·cases hh
   exact t' rfl (re' (rt' rfl rfl rfl))
  exact sk' (S' (p' 2 rfl (qe' rfl trivial (B0.lenA _) (e' rfl (bk' (fw' (T13 hh) rfl rfl rfl))))))
theorem U13 {p m1 v27 res}(hh:I6 p m1 v27=some res):Zr p m1 v27 res:=(J12 p) _ _ _ hh
def B6 (p:I0):Option (Int×Int):=
 Jn p>>=fun x1=>
 if (x1 != 0)=true then
  some ((-1),x1)
 else
  I6 p [] 0
theorem Oi {p res}(hh:B6 p=some res):K0 C 13 [.agg (I0.cells p)] [] (Ret [] (.tup [.d (.int .i64 res.1),.d (.int .i64 res.2)])):=by
 unfold B6 at hh
 obtain ⟨x1,hx1,hh⟩:=bs' hh
 refine K0.intro hC Tryz.func13 rfl rfl rfl (s' rfl rfl (E0.n hC rfl (e' rfl (S' (p' 1 rfl (c' (U1i hx1) rfl rfl (e' rfl (t' rfl (ci' rfl hh (fun hh=>?_) (fun hh=>?_))))))))))
 ·cases hh
  exact t' rfl (re' (rt' rfl rfl rfl))
 exact sk' (p' 3 rfl (qe' rfl trivial (B0.lenA _) (E0.w rfl (q' rfl (E0.n hC rfl (e' rfl (S' (p' 2 rfl (qe' rfl trivial (B0.lenA _) (e' rfl (bk' (fw' (U13 hh) rfl rfl rfl))))))))))))
def Ch (e:D0):Option Int:=
 I3 e 1 (F0.mk 0 0 false false false)>>=fun x1=>
 F6 x1>>=fun x2=>
 some x2
theorem E18 {e res}(hh:Ch e=some res):K0 C 41 [.agg (D0.cells e)] [] (Ret [] (.d (.int .i64 res))):=by
 unfold Ch at hh
 obtain ⟨x1,hx1,hh⟩:=bs' hh
 obtain ⟨x2,hx2,hh⟩:=bs' hh
 cases hh
 exact K0.intro hC Tryz.func41 rfl rfl rfl (s' rfl rfl (E0.n hC rfl (e' rfl (p' 1 rfl (E0.n hC rfl (e' rfl (p' 2 rfl (g' [1] (Yj hx1) rfl rfl rfl rfl rfl rfl (n' (p' 1 rfl (g' [1] (Ak hx2) rfl rfl rfl rfl rfl rfl (e' rfl (re' (rt' rfl rfl rfl))))))))))))))
def Dh (p:I0)(e:D0):Option (A0×Int):=
 B6 p>>=fun x1=>
 if (x1.2 != 0)=true then
  some ((A0.mk 0 0 0 0 [] [] []),x1.2)
 else
  Ch e>>=fun x2=>
  if (x2 != 0)=true then
   some ((A0.mk 0 0 0 0 [] [] []),x2)
  else
   some (N0.mk p 0 false [])>>=fun x3=>
   M4 x3 ((p.Decls).length:Int) true>>=fun x4=>
   O3 x4 e>>=fun x5=>
   some (x5.1,x5.2)
theorem F18 {p e res}(hh:Dh p e=some res):K0 C 16 [.agg (I0.cells p),.agg (D0.cells e)] [] (Ret [] (.tup [.agg (A0.cells res.1),.d (.int .i64 res.2)])):=by
 unfold Dh at hh
 obtain ⟨x1,hx1,hh⟩:=bs' hh
 refine K0.intro hC Tryz.func16 rfl rfl rfl (s' rfl rfl (E0.n hC rfl (E0.n hC rfl (E0.nf hC rfl (e' rfl (S' (p' 1 rfl (c' (Oi hx1) rfl rfl (e' rfl (t' rfl (ci' rfl hh (fun hh=>?_) (fun hh=>?_))))))))))))
 ·cases hh
  exact p' 2 rfl (E0.s hC rfl (e' rfl (re' (rt' rfl rfl rfl))))
 obtain ⟨x2,hx2,hh⟩:=bs' hh
 refine sk' (S' (p' 1 rfl (c' (E18 hx2) rfl rfl (e' rfl (t' rfl (ci' rfl hh (fun hh=>?_) (fun hh=>?_)))))))
 ·cases hh
  exact p' 2 rfl (E0.s hC rfl (e' rfl (re' (rt' rfl rfl rfl))))
 obtain ⟨x3,hx3,hh⟩:=bs' hh
 obtain ⟨x4,hx4,hh⟩:=bs' hh
 obtain ⟨x5,hx5,hh⟩:=bs' hh
 refine sk' (p' 2 rfl (E0.n hC rfl (e' rfl (S' (AEx.drawE hC ?_)))))
 refine S0.step rfl (j0:=0) (js:=[1,5]) (by kernel_rfl) ⟨⟨_,rfl,?_⟩,⟨_,rfl,?_⟩,⟨_,rfl,?_⟩,trivial⟩
 ·refine e' rfl ?_
  refine S0.step rfl (j0:=1) (js:=[5]) (by kernel_rfl) ⟨⟨_,rfl,?_⟩,⟨_,rfl,?_⟩,trivial⟩
  ·refine e' rfl ?_
   refine S0.step rfl (j0:=2) (js:=[5]) (by kernel_rfl) ⟨⟨_,rfl,?_⟩,⟨_,rfl,?_⟩,trivial⟩
   ·refine e' rfl ?_
    refine S0.step rfl (j0:=3) (js:=[5]) (by kernel_rfl) ⟨⟨_,rfl,?_⟩,⟨_,rfl,?_⟩,trivial⟩
    ·refine qe' rfl trivial (B0.lenA _) (n' ?_)
     refine S0.step rfl (j0:=4) (js:=[5]) (by kernel_rfl) ⟨⟨_,rfl,?_⟩,⟨_,rfl,?_⟩,trivial⟩
     ·refine E0.bx 3 (y:=.box (N0.row x3)) (by cases hx3; exact .inl rfl) rfl rfl rfl (c' (X0 hx4) rfl rfl (n' ?_))
      refine S0.step rfl (j0:=5) (js:=[]) (by kernel_rfl) ⟨⟨_,rfl,?_⟩,trivial⟩
      refine e' rfl ?_
      refine S0.step rfl (j0:=6) (js:=[]) (by kernel_rfl) ⟨⟨_,rfl,?_⟩,trivial⟩
      refine c' (F1 hx5) rfl rfl (n' ?_)
      refine S0.step rfl (j0:=7) (js:=[8]) (by kernel_rfl) ⟨⟨_,rfl,?_⟩,⟨_,rfl,?_⟩,trivial⟩
      ·refine e' rfl ?_
       refine S0.step rfl (j0:=8) (js:=[]) (by kernel_rfl) ⟨⟨_,rfl,?_⟩,trivial⟩
       refine e' rfl ?_
       refine S0.step rfl (j0:=9) (js:=[]) (by kernel_rfl) ⟨⟨_,rfl,?_⟩,trivial⟩
       refine E0.s hC rfl (n' ?_)
       refine S0.step rfl (j0:=10) (js:=[]) (by kernel_rfl) ⟨⟨_,rfl,?_⟩,trivial⟩
       cases hh
       exact e' rfl (S0.nil (by kernel_rfl) (re' (rt' rfl rfl rfl)))
      ·refine e' rfl ?_
       refine S0.step rfl (j0:=7) (js:=[]) (by kernel_rfl) ⟨⟨_,rfl,?_⟩,trivial⟩
       refine e' rfl ?_
       refine S0.step rfl (j0:=9) (js:=[]) (by kernel_rfl) ⟨⟨_,rfl,?_⟩,trivial⟩
       refine E0.s hC rfl (n' ?_)
       refine S0.step rfl (j0:=10) (js:=[]) (by kernel_rfl) ⟨⟨_,rfl,?_⟩,trivial⟩
       cases hh
       exact e' rfl (S0.nil (by kernel_rfl) (re' (rt' rfl rfl rfl)))
     ·refine e' rfl ?_
      refine S0.step rfl (j0:=4) (js:=[]) (by kernel_rfl) ⟨⟨_,rfl,?_⟩,trivial⟩
      refine E0.bx 3 (y:=.box (N0.row x3)) (by cases hx3; exact .inl rfl) rfl rfl rfl (c' (X0 hx4) rfl rfl (n' ?_))
      refine S0.step rfl (j0:=6) (js:=[]) (by kernel_rfl) ⟨⟨_,rfl,?_⟩,trivial⟩
      refine c' (F1 hx5) rfl rfl (n' ?_)
      refine S0.step rfl (j0:=7) (js:=[8]) (by kernel_rfl) ⟨⟨_,rfl,?_⟩,⟨_,rfl,?_⟩,trivial⟩
      ·refine e' rfl ?_
       refine S0.step rfl (j0:=8) (js:=[]) (by kernel_rfl) ⟨⟨_,rfl,?_⟩,trivial⟩
       refine e' rfl ?_
       refine S0.step rfl (j0:=9) (js:=[]) (by kernel_rfl) ⟨⟨_,rfl,?_⟩,trivial⟩
       refine E0.s hC rfl (n' ?_)
       refine S0.step rfl (j0:=10) (js:=[]) (by kernel_rfl) ⟨⟨_,rfl,?_⟩,trivial⟩
       cases hh
       exact e' rfl (S0.nil (by kernel_rfl) (re' (rt' rfl rfl rfl)))
      ·refine e' rfl ?_
       refine S0.step rfl (j0:=7) (js:=[]) (by kernel_rfl) ⟨⟨_,rfl,?_⟩,trivial⟩
       refine e' rfl ?_
       refine S0.step rfl (j0:=9) (js:=[]) (by kernel_rfl) ⟨⟨_,rfl,?_⟩,trivial⟩
       refine E0.s hC rfl (n' ?_)
       refine S0.step rfl (j0:=10) (js:=[]) (by kernel_rfl) ⟨⟨_,rfl,?_⟩,trivial⟩
       cases hh
       exact e' rfl (S0.nil (by kernel_rfl) (re' (rt' rfl rfl rfl)))
    ·refine e' rfl ?_
     refine S0.step rfl (j0:=3) (js:=[]) (by kernel_rfl) ⟨⟨_,rfl,?_⟩,trivial⟩
     refine qe' rfl trivial (B0.lenA _) (n' ?_)
     refine S0.step rfl (j0:=4) (js:=[]) (by kernel_rfl) ⟨⟨_,rfl,?_⟩,trivial⟩
     refine E0.bx 3 (y:=.box (N0.row x3)) (by cases hx3; exact .inl rfl) rfl rfl rfl (c' (X0 hx4) rfl rfl (n' ?_))
     refine S0.step rfl (j0:=6) (js:=[]) (by kernel_rfl) ⟨⟨_,rfl,?_⟩,trivial⟩
     refine c' (F1 hx5) rfl rfl (n' ?_)
     refine S0.step rfl (j0:=7) (js:=[8]) (by kernel_rfl) ⟨⟨_,rfl,?_⟩,⟨_,rfl,?_⟩,trivial⟩
     ·refine e' rfl ?_
      refine S0.step rfl (j0:=8) (js:=[]) (by kernel_rfl) ⟨⟨_,rfl,?_⟩,trivial⟩
      refine e' rfl ?_
      refine S0.step rfl (j0:=9) (js:=[]) (by kernel_rfl) ⟨⟨_,rfl,?_⟩,trivial⟩
      refine E0.s hC rfl (n' ?_)
      refine S0.step rfl (j0:=10) (js:=[]) (by kernel_rfl) ⟨⟨_,rfl,?_⟩,trivial⟩
      cases hh
      exact e' rfl (S0.nil (by kernel_rfl) (re' (rt' rfl rfl rfl)))
     ·refine e' rfl ?_
      refine S0.step rfl (j0:=7) (js:=[]) (by kernel_rfl) ⟨⟨_,rfl,?_⟩,trivial⟩
      refine e' rfl ?_
      refine S0.step rfl (j0:=9) (js:=[]) (by kernel_rfl) ⟨⟨_,rfl,?_⟩,trivial⟩
      refine E0.s hC rfl (n' ?_)
      refine S0.step rfl (j0:=10) (js:=[]) (by kernel_rfl) ⟨⟨_,rfl,?_⟩,trivial⟩
      cases hh
      exact e' rfl (S0.nil (by kernel_rfl) (re' (rt' rfl rfl rfl)))
   ·refine e' rfl ?_
    refine S0.step rfl (j0:=2) (js:=[]) (by kernel_rfl) ⟨⟨_,rfl,?_⟩,trivial⟩
    refine e' rfl ?_
    refine S0.step rfl (j0:=3) (js:=[]) (by kernel_rfl) ⟨⟨_,rfl,?_⟩,trivial⟩
    refine qe' rfl trivial (B0.lenA _) (n' ?_)
    refine S0.step rfl (j0:=4) (js:=[]) (by kernel_rfl) ⟨⟨_,rfl,?_⟩,trivial⟩
    refine E0.bx 3 (y:=.box (N0.row x3)) (by cases hx3; exact .inl rfl) rfl rfl rfl (c' (X0 hx4) rfl rfl (n' ?_))
    refine S0.step rfl (j0:=6) (js:=[]) (by kernel_rfl) ⟨⟨_,rfl,?_⟩,trivial⟩
    refine c' (F1 hx5) rfl rfl (n' ?_)
    refine S0.step rfl (j0:=7) (js:=[8]) (by kernel_rfl) ⟨⟨_,rfl,?_⟩,⟨_,rfl,?_⟩,trivial⟩
    ·refine e' rfl ?_
     refine S0.step rfl (j0:=8) (js:=[]) (by kernel_rfl) ⟨⟨_,rfl,?_⟩,trivial⟩
     refine e' rfl ?_
     refine S0.step rfl (j0:=9) (js:=[]) (by kernel_rfl) ⟨⟨_,rfl,?_⟩,trivial⟩
     refine E0.s hC rfl (n' ?_)
     refine S0.step rfl (j0:=10) (js:=[]) (by kernel_rfl) ⟨⟨_,rfl,?_⟩,trivial⟩
     cases hh
     exact e' rfl (S0.nil (by kernel_rfl) (re' (rt' rfl rfl rfl)))
    ·refine e' rfl ?_
     refine S0.step rfl (j0:=7) (js:=[]) (by kernel_rfl) ⟨⟨_,rfl,?_⟩,trivial⟩
     refine e' rfl ?_
     refine S0.step rfl (j0:=9) (js:=[]) (by kernel_rfl) ⟨⟨_,rfl,?_⟩,trivial⟩
     refine E0.s hC rfl (n' ?_)
     refine S0.step rfl (j0:=10) (js:=[]) (by kernel_rfl) ⟨⟨_,rfl,?_⟩,trivial⟩
     cases hh
     exact e' rfl (S0.nil (by kernel_rfl) (re' (rt' rfl rfl rfl)))
  ·refine e' rfl ?_
   refine S0.step rfl (j0:=1) (js:=[]) (by kernel_rfl) ⟨⟨_,rfl,?_⟩,trivial⟩
   refine e' rfl ?_
   refine S0.step rfl (j0:=2) (js:=[]) (by kernel_rfl) ⟨⟨_,rfl,?_⟩,trivial⟩
   refine e' rfl ?_
   refine S0.step rfl (j0:=3) (js:=[]) (by kernel_rfl) ⟨⟨_,rfl,?_⟩,trivial⟩
   refine qe' rfl trivial (B0.lenA _) (n' ?_)
   refine S0.step rfl (j0:=4) (js:=[]) (by kernel_rfl) ⟨⟨_,rfl,?_⟩,trivial⟩
   refine E0.bx 3 (y:=.box (N0.row x3)) (by cases hx3; exact .inl rfl) rfl rfl rfl (c' (X0 hx4) rfl rfl (n' ?_))
   refine S0.step rfl (j0:=6) (js:=[]) (by kernel_rfl) ⟨⟨_,rfl,?_⟩,trivial⟩
   refine c' (F1 hx5) rfl rfl (n' ?_)
   refine S0.step rfl (j0:=7) (js:=[8]) (by kernel_rfl) ⟨⟨_,rfl,?_⟩,⟨_,rfl,?_⟩,trivial⟩
   ·refine e' rfl ?_
    refine S0.step rfl (j0:=8) (js:=[]) (by kernel_rfl) ⟨⟨_,rfl,?_⟩,trivial⟩
    refine e' rfl ?_
    refine S0.step rfl (j0:=9) (js:=[]) (by kernel_rfl) ⟨⟨_,rfl,?_⟩,trivial⟩
    refine E0.s hC rfl (n' ?_)
    refine S0.step rfl (j0:=10) (js:=[]) (by kernel_rfl) ⟨⟨_,rfl,?_⟩,trivial⟩
    cases hh
    exact e' rfl (S0.nil (by kernel_rfl) (re' (rt' rfl rfl rfl)))
   ·refine e' rfl ?_
    refine S0.step rfl (j0:=7) (js:=[]) (by kernel_rfl) ⟨⟨_,rfl,?_⟩,trivial⟩
    refine e' rfl ?_
    refine S0.step rfl (j0:=9) (js:=[]) (by kernel_rfl) ⟨⟨_,rfl,?_⟩,trivial⟩
    refine E0.s hC rfl (n' ?_)
    refine S0.step rfl (j0:=10) (js:=[]) (by kernel_rfl) ⟨⟨_,rfl,?_⟩,trivial⟩
    cases hh
    exact e' rfl (S0.nil (by kernel_rfl) (re' (rt' rfl rfl rfl)))
 ·refine e' rfl ?_
  refine S0.step rfl (j0:=0) (js:=[2,5]) (by kernel_rfl) ⟨⟨_,rfl,?_⟩,⟨_,rfl,?_⟩,⟨_,rfl,?_⟩,trivial⟩
  ·refine e' rfl ?_
   refine S0.step rfl (j0:=2) (js:=[5]) (by kernel_rfl) ⟨⟨_,rfl,?_⟩,⟨_,rfl,?_⟩,trivial⟩
   ·refine e' rfl ?_
    refine S0.step rfl (j0:=3) (js:=[5]) (by kernel_rfl) ⟨⟨_,rfl,?_⟩,⟨_,rfl,?_⟩,trivial⟩
    ·refine qe' rfl trivial (B0.lenA _) (n' ?_)
     refine S0.step rfl (j0:=4) (js:=[5]) (by kernel_rfl) ⟨⟨_,rfl,?_⟩,⟨_,rfl,?_⟩,trivial⟩
     ·refine E0.bx 3 (y:=.box (N0.row x3)) (by cases hx3; exact .inl rfl) rfl rfl rfl (c' (X0 hx4) rfl rfl (n' ?_))
      refine S0.step rfl (j0:=5) (js:=[]) (by kernel_rfl) ⟨⟨_,rfl,?_⟩,trivial⟩
      refine e' rfl ?_
      refine S0.step rfl (j0:=6) (js:=[]) (by kernel_rfl) ⟨⟨_,rfl,?_⟩,trivial⟩
      refine c' (F1 hx5) rfl rfl (n' ?_)
      refine S0.step rfl (j0:=7) (js:=[8]) (by kernel_rfl) ⟨⟨_,rfl,?_⟩,⟨_,rfl,?_⟩,trivial⟩
      ·refine e' rfl ?_
       refine S0.step rfl (j0:=8) (js:=[]) (by kernel_rfl) ⟨⟨_,rfl,?_⟩,trivial⟩
       refine e' rfl ?_
       refine S0.step rfl (j0:=9) (js:=[]) (by kernel_rfl) ⟨⟨_,rfl,?_⟩,trivial⟩
       refine E0.s hC rfl (n' ?_)
       refine S0.step rfl (j0:=10) (js:=[]) (by kernel_rfl) ⟨⟨_,rfl,?_⟩,trivial⟩
       cases hh
       exact e' rfl (S0.nil (by kernel_rfl) (re' (rt' rfl rfl rfl)))
      ·refine e' rfl ?_
       refine S0.step rfl (j0:=7) (js:=[]) (by kernel_rfl) ⟨⟨_,rfl,?_⟩,trivial⟩
       refine e' rfl ?_
       refine S0.step rfl (j0:=9) (js:=[]) (by kernel_rfl) ⟨⟨_,rfl,?_⟩,trivial⟩
       refine E0.s hC rfl (n' ?_)
       refine S0.step rfl (j0:=10) (js:=[]) (by kernel_rfl) ⟨⟨_,rfl,?_⟩,trivial⟩
       cases hh
       exact e' rfl (S0.nil (by kernel_rfl) (re' (rt' rfl rfl rfl)))
     ·refine e' rfl ?_
      refine S0.step rfl (j0:=4) (js:=[]) (by kernel_rfl) ⟨⟨_,rfl,?_⟩,trivial⟩
      refine E0.bx 3 (y:=.box (N0.row x3)) (by cases hx3; exact .inl rfl) rfl rfl rfl (c' (X0 hx4) rfl rfl (n' ?_))
      refine S0.step rfl (j0:=6) (js:=[]) (by kernel_rfl) ⟨⟨_,rfl,?_⟩,trivial⟩
      refine c' (F1 hx5) rfl rfl (n' ?_)
      refine S0.step rfl (j0:=7) (js:=[8]) (by kernel_rfl) ⟨⟨_,rfl,?_⟩,⟨_,rfl,?_⟩,trivial⟩
      ·refine e' rfl ?_
       refine S0.step rfl (j0:=8) (js:=[]) (by kernel_rfl) ⟨⟨_,rfl,?_⟩,trivial⟩
       refine e' rfl ?_
       refine S0.step rfl (j0:=9) (js:=[]) (by kernel_rfl) ⟨⟨_,rfl,?_⟩,trivial⟩
       refine E0.s hC rfl (n' ?_)
       refine S0.step rfl (j0:=10) (js:=[]) (by kernel_rfl) ⟨⟨_,rfl,?_⟩,trivial⟩
       cases hh
       exact e' rfl (S0.nil (by kernel_rfl) (re' (rt' rfl rfl rfl)))
      ·refine e' rfl ?_
       refine S0.step rfl (j0:=7) (js:=[]) (by kernel_rfl) ⟨⟨_,rfl,?_⟩,trivial⟩
       refine e' rfl ?_
       refine S0.step rfl (j0:=9) (js:=[]) (by kernel_rfl) ⟨⟨_,rfl,?_⟩,trivial⟩
       refine E0.s hC rfl (n' ?_)
       refine S0.step rfl (j0:=10) (js:=[]) (by kernel_rfl) ⟨⟨_,rfl,?_⟩,trivial⟩
       cases hh
       exact e' rfl (S0.nil (by kernel_rfl) (re' (rt' rfl rfl rfl)))
    ·refine e' rfl ?_
     refine S0.step rfl (j0:=3) (js:=[]) (by kernel_rfl) ⟨⟨_,rfl,?_⟩,trivial⟩
     refine qe' rfl trivial (B0.lenA _) (n' ?_)
     refine S0.step rfl (j0:=4) (js:=[]) (by kernel_rfl) ⟨⟨_,rfl,?_⟩,trivial⟩
     refine E0.bx 3 (y:=.box (N0.row x3)) (by cases hx3; exact .inl rfl) rfl rfl rfl (c' (X0 hx4) rfl rfl (n' ?_))
     refine S0.step rfl (j0:=6) (js:=[]) (by kernel_rfl) ⟨⟨_,rfl,?_⟩,trivial⟩
     refine c' (F1 hx5) rfl rfl (n' ?_)
     refine S0.step rfl (j0:=7) (js:=[8]) (by kernel_rfl) ⟨⟨_,rfl,?_⟩,⟨_,rfl,?_⟩,trivial⟩
     ·refine e' rfl ?_
      refine S0.step rfl (j0:=8) (js:=[]) (by kernel_rfl) ⟨⟨_,rfl,?_⟩,trivial⟩
      refine e' rfl ?_
      refine S0.step rfl (j0:=9) (js:=[]) (by kernel_rfl) ⟨⟨_,rfl,?_⟩,trivial⟩
      refine E0.s hC rfl (n' ?_)
      refine S0.step rfl (j0:=10) (js:=[]) (by kernel_rfl) ⟨⟨_,rfl,?_⟩,trivial⟩
      cases hh
      exact e' rfl (S0.nil (by kernel_rfl) (re' (rt' rfl rfl rfl)))
     ·refine e' rfl ?_
      refine S0.step rfl (j0:=7) (js:=[]) (by kernel_rfl) ⟨⟨_,rfl,?_⟩,trivial⟩
      refine e' rfl ?_
      refine S0.step rfl (j0:=9) (js:=[]) (by kernel_rfl) ⟨⟨_,rfl,?_⟩,trivial⟩
      refine E0.s hC rfl (n' ?_)
      refine S0.step rfl (j0:=10) (js:=[]) (by kernel_rfl) ⟨⟨_,rfl,?_⟩,trivial⟩
      cases hh
      exact e' rfl (S0.nil (by kernel_rfl) (re' (rt' rfl rfl rfl)))
   ·refine e' rfl ?_
    refine S0.step rfl (j0:=2) (js:=[]) (by kernel_rfl) ⟨⟨_,rfl,?_⟩,trivial⟩
    refine e' rfl ?_
    refine S0.step rfl (j0:=3) (js:=[]) (by kernel_rfl) ⟨⟨_,rfl,?_⟩,trivial⟩
    refine qe' rfl trivial (B0.lenA _) (n' ?_)
    refine S0.step rfl (j0:=4) (js:=[]) (by kernel_rfl) ⟨⟨_,rfl,?_⟩,trivial⟩
    refine E0.bx 3 (y:=.box (N0.row x3)) (by cases hx3; exact .inl rfl) rfl rfl rfl (c' (X0 hx4) rfl rfl (n' ?_))
    refine S0.step rfl (j0:=6) (js:=[]) (by kernel_rfl) ⟨⟨_,rfl,?_⟩,trivial⟩
    refine c' (F1 hx5) rfl rfl (n' ?_)
    refine S0.step rfl (j0:=7) (js:=[8]) (by kernel_rfl) ⟨⟨_,rfl,?_⟩,⟨_,rfl,?_⟩,trivial⟩
    ·refine e' rfl ?_
     refine S0.step rfl (j0:=8) (js:=[]) (by kernel_rfl) ⟨⟨_,rfl,?_⟩,trivial⟩
     refine e' rfl ?_
     refine S0.step rfl (j0:=9) (js:=[]) (by kernel_rfl) ⟨⟨_,rfl,?_⟩,trivial⟩
     refine E0.s hC rfl (n' ?_)
     refine S0.step rfl (j0:=10) (js:=[]) (by kernel_rfl) ⟨⟨_,rfl,?_⟩,trivial⟩
     cases hh
     exact e' rfl (S0.nil (by kernel_rfl) (re' (rt' rfl rfl rfl)))
    ·refine e' rfl ?_
     refine S0.step rfl (j0:=7) (js:=[]) (by kernel_rfl) ⟨⟨_,rfl,?_⟩,trivial⟩
     refine e' rfl ?_
     refine S0.step rfl (j0:=9) (js:=[]) (by kernel_rfl) ⟨⟨_,rfl,?_⟩,trivial⟩
     refine E0.s hC rfl (n' ?_)
     refine S0.step rfl (j0:=10) (js:=[]) (by kernel_rfl) ⟨⟨_,rfl,?_⟩,trivial⟩
     cases hh
     exact e' rfl (S0.nil (by kernel_rfl) (re' (rt' rfl rfl rfl)))
  ·refine e' rfl ?_
   refine S0.step rfl (j0:=0) (js:=[3,5]) (by kernel_rfl) ⟨⟨_,rfl,?_⟩,⟨_,rfl,?_⟩,⟨_,rfl,?_⟩,trivial⟩
   ·refine e' rfl ?_
    refine S0.step rfl (j0:=3) (js:=[5]) (by kernel_rfl) ⟨⟨_,rfl,?_⟩,⟨_,rfl,?_⟩,trivial⟩
    ·refine qe' rfl trivial (B0.lenA _) (n' ?_)
     refine S0.step rfl (j0:=4) (js:=[5]) (by kernel_rfl) ⟨⟨_,rfl,?_⟩,⟨_,rfl,?_⟩,trivial⟩
     ·refine E0.bx 3 (y:=.box (N0.row x3)) (by cases hx3; exact .inl rfl) rfl rfl rfl (c' (X0 hx4) rfl rfl (n' ?_))
      refine S0.step rfl (j0:=5) (js:=[]) (by kernel_rfl) ⟨⟨_,rfl,?_⟩,trivial⟩
      refine e' rfl ?_
      refine S0.step rfl (j0:=6) (js:=[]) (by kernel_rfl) ⟨⟨_,rfl,?_⟩,trivial⟩
      refine c' (F1 hx5) rfl rfl (n' ?_)
      refine S0.step rfl (j0:=7) (js:=[8]) (by kernel_rfl) ⟨⟨_,rfl,?_⟩,⟨_,rfl,?_⟩,trivial⟩
      ·refine e' rfl ?_
       refine S0.step rfl (j0:=8) (js:=[]) (by kernel_rfl) ⟨⟨_,rfl,?_⟩,trivial⟩
       refine e' rfl ?_
       refine S0.step rfl (j0:=9) (js:=[]) (by kernel_rfl) ⟨⟨_,rfl,?_⟩,trivial⟩
       refine E0.s hC rfl (n' ?_)
       refine S0.step rfl (j0:=10) (js:=[]) (by kernel_rfl) ⟨⟨_,rfl,?_⟩,trivial⟩
       cases hh
       exact e' rfl (S0.nil (by kernel_rfl) (re' (rt' rfl rfl rfl)))
      ·refine e' rfl ?_
       refine S0.step rfl (j0:=7) (js:=[]) (by kernel_rfl) ⟨⟨_,rfl,?_⟩,trivial⟩
       refine e' rfl ?_
       refine S0.step rfl (j0:=9) (js:=[]) (by kernel_rfl) ⟨⟨_,rfl,?_⟩,trivial⟩
       refine E0.s hC rfl (n' ?_)
       refine S0.step rfl (j0:=10) (js:=[]) (by kernel_rfl) ⟨⟨_,rfl,?_⟩,trivial⟩
       cases hh
       exact e' rfl (S0.nil (by kernel_rfl) (re' (rt' rfl rfl rfl)))
     ·refine e' rfl ?_
      refine S0.step rfl (j0:=4) (js:=[]) (by kernel_rfl) ⟨⟨_,rfl,?_⟩,trivial⟩
      refine E0.bx 3 (y:=.box (N0.row x3)) (by cases hx3; exact .inl rfl) rfl rfl rfl (c' (X0 hx4) rfl rfl (n' ?_))
      refine S0.step rfl (j0:=6) (js:=[]) (by kernel_rfl) ⟨⟨_,rfl,?_⟩,trivial⟩
      refine c' (F1 hx5) rfl rfl (n' ?_)
      refine S0.step rfl (j0:=7) (js:=[8]) (by kernel_rfl) ⟨⟨_,rfl,?_⟩,⟨_,rfl,?_⟩,trivial⟩
      ·refine e' rfl ?_
       refine S0.step rfl (j0:=8) (js:=[]) (by kernel_rfl) ⟨⟨_,rfl,?_⟩,trivial⟩
       refine e' rfl ?_
       refine S0.step rfl (j0:=9) (js:=[]) (by kernel_rfl) ⟨⟨_,rfl,?_⟩,trivial⟩
       refine E0.s hC rfl (n' ?_)
       refine S0.step rfl (j0:=10) (js:=[]) (by kernel_rfl) ⟨⟨_,rfl,?_⟩,trivial⟩
       cases hh
       exact e' rfl (S0.nil (by kernel_rfl) (re' (rt' rfl rfl rfl)))
      ·refine e' rfl ?_
       refine S0.step rfl (j0:=7) (js:=[]) (by kernel_rfl) ⟨⟨_,rfl,?_⟩,trivial⟩
       refine e' rfl ?_
       refine S0.step rfl (j0:=9) (js:=[]) (by kernel_rfl) ⟨⟨_,rfl,?_⟩,trivial⟩
       refine E0.s hC rfl (n' ?_)
       refine S0.step rfl (j0:=10) (js:=[]) (by kernel_rfl) ⟨⟨_,rfl,?_⟩,trivial⟩
       cases hh
       exact e' rfl (S0.nil (by kernel_rfl) (re' (rt' rfl rfl rfl)))
    ·refine e' rfl ?_
     refine S0.step rfl (j0:=3) (js:=[]) (by kernel_rfl) ⟨⟨_,rfl,?_⟩,trivial⟩
     refine qe' rfl trivial (B0.lenA _) (n' ?_)
     refine S0.step rfl (j0:=4) (js:=[]) (by kernel_rfl) ⟨⟨_,rfl,?_⟩,trivial⟩
     refine E0.bx 3 (y:=.box (N0.row x3)) (by cases hx3; exact .inl rfl) rfl rfl rfl (c' (X0 hx4) rfl rfl (n' ?_))
     refine S0.step rfl (j0:=6) (js:=[]) (by kernel_rfl) ⟨⟨_,rfl,?_⟩,trivial⟩
     refine c' (F1 hx5) rfl rfl (n' ?_)
     refine S0.step rfl (j0:=7) (js:=[8]) (by kernel_rfl) ⟨⟨_,rfl,?_⟩,⟨_,rfl,?_⟩,trivial⟩
     ·refine e' rfl ?_
      refine S0.step rfl (j0:=8) (js:=[]) (by kernel_rfl) ⟨⟨_,rfl,?_⟩,trivial⟩
      refine e' rfl ?_
      refine S0.step rfl (j0:=9) (js:=[]) (by kernel_rfl) ⟨⟨_,rfl,?_⟩,trivial⟩
      refine E0.s hC rfl (n' ?_)
      refine S0.step rfl (j0:=10) (js:=[]) (by kernel_rfl) ⟨⟨_,rfl,?_⟩,trivial⟩
      cases hh
      exact e' rfl (S0.nil (by kernel_rfl) (re' (rt' rfl rfl rfl)))
     ·refine e' rfl ?_
      refine S0.step rfl (j0:=7) (js:=[]) (by kernel_rfl) ⟨⟨_,rfl,?_⟩,trivial⟩
      refine e' rfl ?_
      refine S0.step rfl (j0:=9) (js:=[]) (by kernel_rfl) ⟨⟨_,rfl,?_⟩,trivial⟩
      refine E0.s hC rfl (n' ?_)
      refine S0.step rfl (j0:=10) (js:=[]) (by kernel_rfl) ⟨⟨_,rfl,?_⟩,trivial⟩
      cases hh
      exact e' rfl (S0.nil (by kernel_rfl) (re' (rt' rfl rfl rfl)))
   ·refine qe' rfl trivial (B0.lenA _) (n' ?_)
    refine S0.step rfl (j0:=0) (js:=[5]) (by kernel_rfl) ⟨⟨_,rfl,?_⟩,⟨_,rfl,?_⟩,trivial⟩
    ·refine e' rfl ?_
     refine S0.step rfl (j0:=4) (js:=[5]) (by kernel_rfl) ⟨⟨_,rfl,?_⟩,⟨_,rfl,?_⟩,trivial⟩
     ·refine E0.bx 3 (y:=.box (N0.row x3)) (by cases hx3; exact .inl rfl) rfl rfl rfl (c' (X0 hx4) rfl rfl (n' ?_))
      refine S0.step rfl (j0:=5) (js:=[]) (by kernel_rfl) ⟨⟨_,rfl,?_⟩,trivial⟩
      refine e' rfl ?_
      refine S0.step rfl (j0:=6) (js:=[]) (by kernel_rfl) ⟨⟨_,rfl,?_⟩,trivial⟩
      refine c' (F1 hx5) rfl rfl (n' ?_)
      refine S0.step rfl (j0:=7) (js:=[8]) (by kernel_rfl) ⟨⟨_,rfl,?_⟩,⟨_,rfl,?_⟩,trivial⟩
      ·refine e' rfl ?_
       refine S0.step rfl (j0:=8) (js:=[]) (by kernel_rfl) ⟨⟨_,rfl,?_⟩,trivial⟩
       refine e' rfl ?_
       refine S0.step rfl (j0:=9) (js:=[]) (by kernel_rfl) ⟨⟨_,rfl,?_⟩,trivial⟩
       refine E0.s hC rfl (n' ?_)
       refine S0.step rfl (j0:=10) (js:=[]) (by kernel_rfl) ⟨⟨_,rfl,?_⟩,trivial⟩
       cases hh
       exact e' rfl (S0.nil (by kernel_rfl) (re' (rt' rfl rfl rfl)))
      ·refine e' rfl ?_
       refine S0.step rfl (j0:=7) (js:=[]) (by kernel_rfl) ⟨⟨_,rfl,?_⟩,trivial⟩
       refine e' rfl ?_
       refine S0.step rfl (j0:=9) (js:=[]) (by kernel_rfl) ⟨⟨_,rfl,?_⟩,trivial⟩
       refine E0.s hC rfl (n' ?_)
       refine S0.step rfl (j0:=10) (js:=[]) (by kernel_rfl) ⟨⟨_,rfl,?_⟩,trivial⟩
       cases hh
       exact e' rfl (S0.nil (by kernel_rfl) (re' (rt' rfl rfl rfl)))
     ·refine e' rfl ?_
      refine S0.step rfl (j0:=4) (js:=[]) (by kernel_rfl) ⟨⟨_,rfl,?_⟩,trivial⟩
      refine E0.bx 3 (y:=.box (N0.row x3)) (by cases hx3; exact .inl rfl) rfl rfl rfl (c' (X0 hx4) rfl rfl (n' ?_))
      refine S0.step rfl (j0:=6) (js:=[]) (by kernel_rfl) ⟨⟨_,rfl,?_⟩,trivial⟩
      refine c' (F1 hx5) rfl rfl (n' ?_)
      refine S0.step rfl (j0:=7) (js:=[8]) (by kernel_rfl) ⟨⟨_,rfl,?_⟩,⟨_,rfl,?_⟩,trivial⟩
      ·refine e' rfl ?_
       refine S0.step rfl (j0:=8) (js:=[]) (by kernel_rfl) ⟨⟨_,rfl,?_⟩,trivial⟩
       refine e' rfl ?_
       refine S0.step rfl (j0:=9) (js:=[]) (by kernel_rfl) ⟨⟨_,rfl,?_⟩,trivial⟩
       refine E0.s hC rfl (n' ?_)
       refine S0.step rfl (j0:=10) (js:=[]) (by kernel_rfl) ⟨⟨_,rfl,?_⟩,trivial⟩
       cases hh
       exact e' rfl (S0.nil (by kernel_rfl) (re' (rt' rfl rfl rfl)))
      ·refine e' rfl ?_
       refine S0.step rfl (j0:=7) (js:=[]) (by kernel_rfl) ⟨⟨_,rfl,?_⟩,trivial⟩
       refine e' rfl ?_
       refine S0.step rfl (j0:=9) (js:=[]) (by kernel_rfl) ⟨⟨_,rfl,?_⟩,trivial⟩
       refine E0.s hC rfl (n' ?_)
       refine S0.step rfl (j0:=10) (js:=[]) (by kernel_rfl) ⟨⟨_,rfl,?_⟩,trivial⟩
       cases hh
       exact e' rfl (S0.nil (by kernel_rfl) (re' (rt' rfl rfl rfl)))
    ·refine e' rfl ?_
     refine S0.step rfl (j0:=0) (js:=[]) (by kernel_rfl) ⟨⟨_,rfl,?_⟩,trivial⟩
     refine e' rfl ?_
     refine S0.step rfl (j0:=4) (js:=[]) (by kernel_rfl) ⟨⟨_,rfl,?_⟩,trivial⟩
     refine E0.bx 3 (y:=.box (N0.row x3)) (by cases hx3; exact .inl rfl) rfl rfl rfl (c' (X0 hx4) rfl rfl (n' ?_))
     refine S0.step rfl (j0:=6) (js:=[]) (by kernel_rfl) ⟨⟨_,rfl,?_⟩,trivial⟩
     refine c' (F1 hx5) rfl rfl (n' ?_)
     refine S0.step rfl (j0:=7) (js:=[8]) (by kernel_rfl) ⟨⟨_,rfl,?_⟩,⟨_,rfl,?_⟩,trivial⟩
     ·refine e' rfl ?_
      refine S0.step rfl (j0:=8) (js:=[]) (by kernel_rfl) ⟨⟨_,rfl,?_⟩,trivial⟩
      refine e' rfl ?_
      refine S0.step rfl (j0:=9) (js:=[]) (by kernel_rfl) ⟨⟨_,rfl,?_⟩,trivial⟩
      refine E0.s hC rfl (n' ?_)
      refine S0.step rfl (j0:=10) (js:=[]) (by kernel_rfl) ⟨⟨_,rfl,?_⟩,trivial⟩
      cases hh
      exact e' rfl (S0.nil (by kernel_rfl) (re' (rt' rfl rfl rfl)))
     ·refine e' rfl ?_
      refine S0.step rfl (j0:=7) (js:=[]) (by kernel_rfl) ⟨⟨_,rfl,?_⟩,trivial⟩
      refine e' rfl ?_
      refine S0.step rfl (j0:=9) (js:=[]) (by kernel_rfl) ⟨⟨_,rfl,?_⟩,trivial⟩
      refine E0.s hC rfl (n' ?_)
      refine S0.step rfl (j0:=10) (js:=[]) (by kernel_rfl) ⟨⟨_,rfl,?_⟩,trivial⟩
      cases hh
      exact e' rfl (S0.nil (by kernel_rfl) (re' (rt' rfl rfl rfl)))
   ·refine e' rfl ?_
    refine S0.step rfl (j0:=0) (js:=[3]) (by kernel_rfl) ⟨⟨_,rfl,?_⟩,⟨_,rfl,?_⟩,trivial⟩
    ·refine e' rfl ?_
     refine S0.step rfl (j0:=3) (js:=[]) (by kernel_rfl) ⟨⟨_,rfl,?_⟩,trivial⟩
     refine qe' rfl trivial (B0.lenA _) (n' ?_)
     refine S0.step rfl (j0:=4) (js:=[]) (by kernel_rfl) ⟨⟨_,rfl,?_⟩,trivial⟩
     refine E0.bx 3 (y:=.box (N0.row x3)) (by cases hx3; exact .inl rfl) rfl rfl rfl (c' (X0 hx4) rfl rfl (n' ?_))
     refine S0.step rfl (j0:=6) (js:=[]) (by kernel_rfl) ⟨⟨_,rfl,?_⟩,trivial⟩
     refine c' (F1 hx5) rfl rfl (n' ?_)
     refine S0.step rfl (j0:=7) (js:=[8]) (by kernel_rfl) ⟨⟨_,rfl,?_⟩,⟨_,rfl,?_⟩,trivial⟩
     ·refine e' rfl ?_
      refine S0.step rfl (j0:=8) (js:=[]) (by kernel_rfl) ⟨⟨_,rfl,?_⟩,trivial⟩
      refine e' rfl ?_
      refine S0.step rfl (j0:=9) (js:=[]) (by kernel_rfl) ⟨⟨_,rfl,?_⟩,trivial⟩
      refine E0.s hC rfl (n' ?_)
      refine S0.step rfl (j0:=10) (js:=[]) (by kernel_rfl) ⟨⟨_,rfl,?_⟩,trivial⟩
      cases hh
      exact e' rfl (S0.nil (by kernel_rfl) (re' (rt' rfl rfl rfl)))
     ·refine e' rfl ?_
      refine S0.step rfl (j0:=7) (js:=[]) (by kernel_rfl) ⟨⟨_,rfl,?_⟩,trivial⟩
      refine e' rfl ?_
      refine S0.step rfl (j0:=9) (js:=[]) (by kernel_rfl) ⟨⟨_,rfl,?_⟩,trivial⟩
      refine E0.s hC rfl (n' ?_)
      refine S0.step rfl (j0:=10) (js:=[]) (by kernel_rfl) ⟨⟨_,rfl,?_⟩,trivial⟩
      cases hh
      exact e' rfl (S0.nil (by kernel_rfl) (re' (rt' rfl rfl rfl)))
    ·refine qe' rfl trivial (B0.lenA _) (n' ?_)
     refine S0.step rfl (j0:=0) (js:=[]) (by kernel_rfl) ⟨⟨_,rfl,?_⟩,trivial⟩
     refine e' rfl ?_
     refine S0.step rfl (j0:=4) (js:=[]) (by kernel_rfl) ⟨⟨_,rfl,?_⟩,trivial⟩
     refine E0.bx 3 (y:=.box (N0.row x3)) (by cases hx3; exact .inl rfl) rfl rfl rfl (c' (X0 hx4) rfl rfl (n' ?_))
     refine S0.step rfl (j0:=6) (js:=[]) (by kernel_rfl) ⟨⟨_,rfl,?_⟩,trivial⟩
     refine c' (F1 hx5) rfl rfl (n' ?_)
     refine S0.step rfl (j0:=7) (js:=[8]) (by kernel_rfl) ⟨⟨_,rfl,?_⟩,⟨_,rfl,?_⟩,trivial⟩
     ·refine e' rfl ?_
      refine S0.step rfl (j0:=8) (js:=[]) (by kernel_rfl) ⟨⟨_,rfl,?_⟩,trivial⟩
      refine e' rfl ?_
      refine S0.step rfl (j0:=9) (js:=[]) (by kernel_rfl) ⟨⟨_,rfl,?_⟩,trivial⟩
      refine E0.s hC rfl (n' ?_)
      refine S0.step rfl (j0:=10) (js:=[]) (by kernel_rfl) ⟨⟨_,rfl,?_⟩,trivial⟩
      cases hh
      exact e' rfl (S0.nil (by kernel_rfl) (re' (rt' rfl rfl rfl)))
     ·refine e' rfl ?_
      refine S0.step rfl (j0:=7) (js:=[]) (by kernel_rfl) ⟨⟨_,rfl,?_⟩,trivial⟩
      refine e' rfl ?_
      refine S0.step rfl (j0:=9) (js:=[]) (by kernel_rfl) ⟨⟨_,rfl,?_⟩,trivial⟩
      refine E0.s hC rfl (n' ?_)
      refine S0.step rfl (j0:=10) (js:=[]) (by kernel_rfl) ⟨⟨_,rfl,?_⟩,trivial⟩
      cases hh
      exact e' rfl (S0.nil (by kernel_rfl) (re' (rt' rfl rfl rfl)))
  ·refine e' rfl ?_
   refine S0.step rfl (j0:=0) (js:=[2]) (by kernel_rfl) ⟨⟨_,rfl,?_⟩,⟨_,rfl,?_⟩,trivial⟩
   ·refine e' rfl ?_
    refine S0.step rfl (j0:=2) (js:=[]) (by kernel_rfl) ⟨⟨_,rfl,?_⟩,trivial⟩
    refine e' rfl ?_
    refine S0.step rfl (j0:=3) (js:=[]) (by kernel_rfl) ⟨⟨_,rfl,?_⟩,trivial⟩
    refine qe' rfl trivial (B0.lenA _) (n' ?_)
    refine S0.step rfl (j0:=4) (js:=[]) (by kernel_rfl) ⟨⟨_,rfl,?_⟩,trivial⟩
    refine E0.bx 3 (y:=.box (N0.row x3)) (by cases hx3; exact .inl rfl) rfl rfl rfl (c' (X0 hx4) rfl rfl (n' ?_))
    refine S0.step rfl (j0:=6) (js:=[]) (by kernel_rfl) ⟨⟨_,rfl,?_⟩,trivial⟩
    refine c' (F1 hx5) rfl rfl (n' ?_)
    refine S0.step rfl (j0:=7) (js:=[8]) (by kernel_rfl) ⟨⟨_,rfl,?_⟩,⟨_,rfl,?_⟩,trivial⟩
    ·refine e' rfl ?_
     refine S0.step rfl (j0:=8) (js:=[]) (by kernel_rfl) ⟨⟨_,rfl,?_⟩,trivial⟩
     refine e' rfl ?_
     refine S0.step rfl (j0:=9) (js:=[]) (by kernel_rfl) ⟨⟨_,rfl,?_⟩,trivial⟩
     refine E0.s hC rfl (n' ?_)
     refine S0.step rfl (j0:=10) (js:=[]) (by kernel_rfl) ⟨⟨_,rfl,?_⟩,trivial⟩
     cases hh
     exact e' rfl (S0.nil (by kernel_rfl) (re' (rt' rfl rfl rfl)))
    ·refine e' rfl ?_
     refine S0.step rfl (j0:=7) (js:=[]) (by kernel_rfl) ⟨⟨_,rfl,?_⟩,trivial⟩
     refine e' rfl ?_
     refine S0.step rfl (j0:=9) (js:=[]) (by kernel_rfl) ⟨⟨_,rfl,?_⟩,trivial⟩
     refine E0.s hC rfl (n' ?_)
     refine S0.step rfl (j0:=10) (js:=[]) (by kernel_rfl) ⟨⟨_,rfl,?_⟩,trivial⟩
     cases hh
     exact e' rfl (S0.nil (by kernel_rfl) (re' (rt' rfl rfl rfl)))
   ·refine e' rfl ?_
    refine S0.step rfl (j0:=0) (js:=[3]) (by kernel_rfl) ⟨⟨_,rfl,?_⟩,⟨_,rfl,?_⟩,trivial⟩
    ·refine e' rfl ?_
     refine S0.step rfl (j0:=3) (js:=[]) (by kernel_rfl) ⟨⟨_,rfl,?_⟩,trivial⟩
     refine qe' rfl trivial (B0.lenA _) (n' ?_)
     refine S0.step rfl (j0:=4) (js:=[]) (by kernel_rfl) ⟨⟨_,rfl,?_⟩,trivial⟩
     refine E0.bx 3 (y:=.box (N0.row x3)) (by cases hx3; exact .inl rfl) rfl rfl rfl (c' (X0 hx4) rfl rfl (n' ?_))
     refine S0.step rfl (j0:=6) (js:=[]) (by kernel_rfl) ⟨⟨_,rfl,?_⟩,trivial⟩
     refine c' (F1 hx5) rfl rfl (n' ?_)
     refine S0.step rfl (j0:=7) (js:=[8]) (by kernel_rfl) ⟨⟨_,rfl,?_⟩,⟨_,rfl,?_⟩,trivial⟩
     ·refine e' rfl ?_
      refine S0.step rfl (j0:=8) (js:=[]) (by kernel_rfl) ⟨⟨_,rfl,?_⟩,trivial⟩
      refine e' rfl ?_
      refine S0.step rfl (j0:=9) (js:=[]) (by kernel_rfl) ⟨⟨_,rfl,?_⟩,trivial⟩
      refine E0.s hC rfl (n' ?_)
      refine S0.step rfl (j0:=10) (js:=[]) (by kernel_rfl) ⟨⟨_,rfl,?_⟩,trivial⟩
      cases hh
      exact e' rfl (S0.nil (by kernel_rfl) (re' (rt' rfl rfl rfl)))
     ·refine e' rfl ?_
      refine S0.step rfl (j0:=7) (js:=[]) (by kernel_rfl) ⟨⟨_,rfl,?_⟩,trivial⟩
      refine e' rfl ?_
      refine S0.step rfl (j0:=9) (js:=[]) (by kernel_rfl) ⟨⟨_,rfl,?_⟩,trivial⟩
      refine E0.s hC rfl (n' ?_)
      refine S0.step rfl (j0:=10) (js:=[]) (by kernel_rfl) ⟨⟨_,rfl,?_⟩,trivial⟩
      cases hh
      exact e' rfl (S0.nil (by kernel_rfl) (re' (rt' rfl rfl rfl)))
    ·refine qe' rfl trivial (B0.lenA _) (n' ?_)
     refine S0.step rfl (j0:=0) (js:=[]) (by kernel_rfl) ⟨⟨_,rfl,?_⟩,trivial⟩
     refine e' rfl ?_
     refine S0.step rfl (j0:=4) (js:=[]) (by kernel_rfl) ⟨⟨_,rfl,?_⟩,trivial⟩
     refine E0.bx 3 (y:=.box (N0.row x3)) (by cases hx3; exact .inl rfl) rfl rfl rfl (c' (X0 hx4) rfl rfl (n' ?_))
     refine S0.step rfl (j0:=6) (js:=[]) (by kernel_rfl) ⟨⟨_,rfl,?_⟩,trivial⟩
     refine c' (F1 hx5) rfl rfl (n' ?_)
     refine S0.step rfl (j0:=7) (js:=[8]) (by kernel_rfl) ⟨⟨_,rfl,?_⟩,⟨_,rfl,?_⟩,trivial⟩
     ·refine e' rfl ?_
      refine S0.step rfl (j0:=8) (js:=[]) (by kernel_rfl) ⟨⟨_,rfl,?_⟩,trivial⟩
      refine e' rfl ?_
      refine S0.step rfl (j0:=9) (js:=[]) (by kernel_rfl) ⟨⟨_,rfl,?_⟩,trivial⟩
      refine E0.s hC rfl (n' ?_)
      refine S0.step rfl (j0:=10) (js:=[]) (by kernel_rfl) ⟨⟨_,rfl,?_⟩,trivial⟩
      cases hh
      exact e' rfl (S0.nil (by kernel_rfl) (re' (rt' rfl rfl rfl)))
     ·refine e' rfl ?_
      refine S0.step rfl (j0:=7) (js:=[]) (by kernel_rfl) ⟨⟨_,rfl,?_⟩,trivial⟩
      refine e' rfl ?_
      refine S0.step rfl (j0:=9) (js:=[]) (by kernel_rfl) ⟨⟨_,rfl,?_⟩,trivial⟩
      refine E0.s hC rfl (n' ?_)
      refine S0.step rfl (j0:=10) (js:=[]) (by kernel_rfl) ⟨⟨_,rfl,?_⟩,trivial⟩
      cases hh
      exact e' rfl (S0.nil (by kernel_rfl) (re' (rt' rfl rfl rfl)))
 ·refine e' rfl ?_
  refine S0.step rfl (j0:=0) (js:=[1]) (by kernel_rfl) ⟨⟨_,rfl,?_⟩,⟨_,rfl,?_⟩,trivial⟩
  ·refine e' rfl ?_
   refine S0.step rfl (j0:=1) (js:=[]) (by kernel_rfl) ⟨⟨_,rfl,?_⟩,trivial⟩
   refine e' rfl ?_
   refine S0.step rfl (j0:=2) (js:=[]) (by kernel_rfl) ⟨⟨_,rfl,?_⟩,trivial⟩
   refine e' rfl ?_
   refine S0.step rfl (j0:=3) (js:=[]) (by kernel_rfl) ⟨⟨_,rfl,?_⟩,trivial⟩
   refine qe' rfl trivial (B0.lenA _) (n' ?_)
   refine S0.step rfl (j0:=4) (js:=[]) (by kernel_rfl) ⟨⟨_,rfl,?_⟩,trivial⟩
   refine E0.bx 3 (y:=.box (N0.row x3)) (by cases hx3; exact .inl rfl) rfl rfl rfl (c' (X0 hx4) rfl rfl (n' ?_))
   refine S0.step rfl (j0:=6) (js:=[]) (by kernel_rfl) ⟨⟨_,rfl,?_⟩,trivial⟩
   refine c' (F1 hx5) rfl rfl (n' ?_)
   refine S0.step rfl (j0:=7) (js:=[8]) (by kernel_rfl) ⟨⟨_,rfl,?_⟩,⟨_,rfl,?_⟩,trivial⟩
   ·refine e' rfl ?_
    refine S0.step rfl (j0:=8) (js:=[]) (by kernel_rfl) ⟨⟨_,rfl,?_⟩,trivial⟩
    refine e' rfl ?_
    refine S0.step rfl (j0:=9) (js:=[]) (by kernel_rfl) ⟨⟨_,rfl,?_⟩,trivial⟩
    refine E0.s hC rfl (n' ?_)
    refine S0.step rfl (j0:=10) (js:=[]) (by kernel_rfl) ⟨⟨_,rfl,?_⟩,trivial⟩
    cases hh
    exact e' rfl (S0.nil (by kernel_rfl) (re' (rt' rfl rfl rfl)))
   ·refine e' rfl ?_
    refine S0.step rfl (j0:=7) (js:=[]) (by kernel_rfl) ⟨⟨_,rfl,?_⟩,trivial⟩
    refine e' rfl ?_
    refine S0.step rfl (j0:=9) (js:=[]) (by kernel_rfl) ⟨⟨_,rfl,?_⟩,trivial⟩
    refine E0.s hC rfl (n' ?_)
    refine S0.step rfl (j0:=10) (js:=[]) (by kernel_rfl) ⟨⟨_,rfl,?_⟩,trivial⟩
    cases hh
    exact e' rfl (S0.nil (by kernel_rfl) (re' (rt' rfl rfl rfl)))
  ·refine e' rfl ?_
   refine S0.step rfl (j0:=0) (js:=[2]) (by kernel_rfl) ⟨⟨_,rfl,?_⟩,⟨_,rfl,?_⟩,trivial⟩
   ·refine e' rfl ?_
    refine S0.step rfl (j0:=2) (js:=[]) (by kernel_rfl) ⟨⟨_,rfl,?_⟩,trivial⟩
    refine e' rfl ?_
    refine S0.step rfl (j0:=3) (js:=[]) (by kernel_rfl) ⟨⟨_,rfl,?_⟩,trivial⟩
    refine qe' rfl trivial (B0.lenA _) (n' ?_)
    refine S0.step rfl (j0:=4) (js:=[]) (by kernel_rfl) ⟨⟨_,rfl,?_⟩,trivial⟩
    refine E0.bx 3 (y:=.box (N0.row x3)) (by cases hx3; exact .inl rfl) rfl rfl rfl (c' (X0 hx4) rfl rfl (n' ?_))
    refine S0.step rfl (j0:=6) (js:=[]) (by kernel_rfl) ⟨⟨_,rfl,?_⟩,trivial⟩
    refine c' (F1 hx5) rfl rfl (n' ?_)
    refine S0.step rfl (j0:=7) (js:=[8]) (by kernel_rfl) ⟨⟨_,rfl,?_⟩,⟨_,rfl,?_⟩,trivial⟩
    ·refine e' rfl ?_
     refine S0.step rfl (j0:=8) (js:=[]) (by kernel_rfl) ⟨⟨_,rfl,?_⟩,trivial⟩
     refine e' rfl ?_
     refine S0.step rfl (j0:=9) (js:=[]) (by kernel_rfl) ⟨⟨_,rfl,?_⟩,trivial⟩
     refine E0.s hC rfl (n' ?_)
     refine S0.step rfl (j0:=10) (js:=[]) (by kernel_rfl) ⟨⟨_,rfl,?_⟩,trivial⟩
     cases hh
     exact e' rfl (S0.nil (by kernel_rfl) (re' (rt' rfl rfl rfl)))
    ·refine e' rfl ?_
     refine S0.step rfl (j0:=7) (js:=[]) (by kernel_rfl) ⟨⟨_,rfl,?_⟩,trivial⟩
     refine e' rfl ?_
     refine S0.step rfl (j0:=9) (js:=[]) (by kernel_rfl) ⟨⟨_,rfl,?_⟩,trivial⟩
     refine E0.s hC rfl (n' ?_)
     refine S0.step rfl (j0:=10) (js:=[]) (by kernel_rfl) ⟨⟨_,rfl,?_⟩,trivial⟩
     cases hh
     exact e' rfl (S0.nil (by kernel_rfl) (re' (rt' rfl rfl rfl)))
   ·refine e' rfl ?_
    refine S0.step rfl (j0:=0) (js:=[3]) (by kernel_rfl) ⟨⟨_,rfl,?_⟩,⟨_,rfl,?_⟩,trivial⟩
    ·refine e' rfl ?_
     refine S0.step rfl (j0:=3) (js:=[]) (by kernel_rfl) ⟨⟨_,rfl,?_⟩,trivial⟩
     refine qe' rfl trivial (B0.lenA _) (n' ?_)
     refine S0.step rfl (j0:=4) (js:=[]) (by kernel_rfl) ⟨⟨_,rfl,?_⟩,trivial⟩
     refine E0.bx 3 (y:=.box (N0.row x3)) (by cases hx3; exact .inl rfl) rfl rfl rfl (c' (X0 hx4) rfl rfl (n' ?_))
     refine S0.step rfl (j0:=6) (js:=[]) (by kernel_rfl) ⟨⟨_,rfl,?_⟩,trivial⟩
     refine c' (F1 hx5) rfl rfl (n' ?_)
     refine S0.step rfl (j0:=7) (js:=[8]) (by kernel_rfl) ⟨⟨_,rfl,?_⟩,⟨_,rfl,?_⟩,trivial⟩
     ·refine e' rfl ?_
      refine S0.step rfl (j0:=8) (js:=[]) (by kernel_rfl) ⟨⟨_,rfl,?_⟩,trivial⟩
      refine e' rfl ?_
      refine S0.step rfl (j0:=9) (js:=[]) (by kernel_rfl) ⟨⟨_,rfl,?_⟩,trivial⟩
      refine E0.s hC rfl (n' ?_)
      refine S0.step rfl (j0:=10) (js:=[]) (by kernel_rfl) ⟨⟨_,rfl,?_⟩,trivial⟩
      cases hh
      exact e' rfl (S0.nil (by kernel_rfl) (re' (rt' rfl rfl rfl)))
     ·refine e' rfl ?_
      refine S0.step rfl (j0:=7) (js:=[]) (by kernel_rfl) ⟨⟨_,rfl,?_⟩,trivial⟩
      refine e' rfl ?_
      refine S0.step rfl (j0:=9) (js:=[]) (by kernel_rfl) ⟨⟨_,rfl,?_⟩,trivial⟩
      refine E0.s hC rfl (n' ?_)
      refine S0.step rfl (j0:=10) (js:=[]) (by kernel_rfl) ⟨⟨_,rfl,?_⟩,trivial⟩
      cases hh
      exact e' rfl (S0.nil (by kernel_rfl) (re' (rt' rfl rfl rfl)))
    ·refine qe' rfl trivial (B0.lenA _) (n' ?_)
     refine S0.step rfl (j0:=0) (js:=[]) (by kernel_rfl) ⟨⟨_,rfl,?_⟩,trivial⟩
     refine e' rfl ?_
     refine S0.step rfl (j0:=4) (js:=[]) (by kernel_rfl) ⟨⟨_,rfl,?_⟩,trivial⟩
     refine E0.bx 3 (y:=.box (N0.row x3)) (by cases hx3; exact .inl rfl) rfl rfl rfl (c' (X0 hx4) rfl rfl (n' ?_))
     refine S0.step rfl (j0:=6) (js:=[]) (by kernel_rfl) ⟨⟨_,rfl,?_⟩,trivial⟩
     refine c' (F1 hx5) rfl rfl (n' ?_)
     refine S0.step rfl (j0:=7) (js:=[8]) (by kernel_rfl) ⟨⟨_,rfl,?_⟩,⟨_,rfl,?_⟩,trivial⟩
     ·refine e' rfl ?_
      refine S0.step rfl (j0:=8) (js:=[]) (by kernel_rfl) ⟨⟨_,rfl,?_⟩,trivial⟩
      refine e' rfl ?_
      refine S0.step rfl (j0:=9) (js:=[]) (by kernel_rfl) ⟨⟨_,rfl,?_⟩,trivial⟩
      refine E0.s hC rfl (n' ?_)
      refine S0.step rfl (j0:=10) (js:=[]) (by kernel_rfl) ⟨⟨_,rfl,?_⟩,trivial⟩
      cases hh
      exact e' rfl (S0.nil (by kernel_rfl) (re' (rt' rfl rfl rfl)))
     ·refine e' rfl ?_
      refine S0.step rfl (j0:=7) (js:=[]) (by kernel_rfl) ⟨⟨_,rfl,?_⟩,trivial⟩
      refine e' rfl ?_
      refine S0.step rfl (j0:=9) (js:=[]) (by kernel_rfl) ⟨⟨_,rfl,?_⟩,trivial⟩
      refine E0.s hC rfl (n' ?_)
      refine S0.step rfl (j0:=10) (js:=[]) (by kernel_rfl) ⟨⟨_,rfl,?_⟩,trivial⟩
      cases hh
      exact e' rfl (S0.nil (by kernel_rfl) (re' (rt' rfl rfl rfl)))
end Go.Proofs.YtdkabnfphmmmnaaGreatDoor

set_option maxRecDepth 100000
set_option maxHeartbeats 4000000
set_option synthInstance.maxSize 20000
set_option linter.unusedVariables false
namespace Go.Proofs.YtdkabnfphmmmnaaGreatDoor
open Go.Am
def Cc (p:I0)(e:D0):Option (Int×Int×Int):=
 Dh p e>>=fun x1=>
 if (x1.2 != 0)=true then
  some (0,0,x1.2)
 else
  if (x1.1.Kind != 1)=true then
   some (0,0,9)
  else
   some (x1.1.Low,x1.1.High,0)
theorem Nv {p e res}(hh:Cc p e=some res):K0 C 19 [.agg (I0.cells p),.agg (D0.cells e)] [] (Ret [] (.tup [.d (.int .i64 res.1),.d (.int .i64 res.2.1),.d (.int .i64 res.2.2)])):=by
 unfold Cc at hh
 obtain ⟨x1,hx1,hh⟩:=bs' hh
 refine K0.intro hC Tryz.func19 rfl rfl rfl (s' rfl rfl (E0.n hC rfl (E0.n hC rfl (e' rfl (p' 2 rfl (c' (F18 hx1) rfl rfl (o' 3 rfl (E0.nf hC rfl (E0.s hC rfl (e' rfl (S' (t' rfl (ci' rfl hh (fun hh=>?_) (fun hh=>?_))))))))))))))
 ·cases hh
  exact t' rfl (re' (rt' rfl rfl rfl))
 refine sk' (S' (t' rfl (ci' rfl hh (fun hh=>?_) (fun hh=>?_))))
 ·cases hh
  exact t' rfl (re' (rt' rfl rfl rfl))
 cases hh
 exact sk' (S' (AEx.draw hC 7 rfl rfl rfl (E' rfl (n' (re' (rt' rfl rfl rfl))))))
def Pi (p:I0):Option (Int×Int):=
 B6 p>>=fun x1=>
 if (x1.2 != 0)=true then
  some (0,x1.2)
 else
  Nf p>>=fun x2=>
  some (x2.steps,0)
theorem L1a {p res}(hh:Pi p=some res):K0 C 21 [.agg (I0.cells p)] [] (Ret [] (.tup [.d (.int .i64 res.1),.d (.int .i64 res.2)])):=by
 unfold Pi at hh
 obtain ⟨x1,hx1,hh⟩:=bs' hh
 refine K0.intro hC Tryz.func21 rfl rfl rfl (s' rfl rfl (E0.n hC rfl (e' rfl (S' (p' 1 rfl (c' (Oi hx1) rfl rfl (e' rfl (t' rfl (ci' rfl hh (fun hh=>?_) (fun hh=>?_))))))))))
 ·cases hh
  exact t' rfl (re' (rt' rfl rfl rfl))
 obtain ⟨x2,hx2,hh⟩:=bs' hh
 cases hh
 exact sk' (p' 1 rfl (c' (Wr hx2) rfl rfl (e' rfl (re' (rt' rfl rfl rfl)))))
def Im:Option Bool:=
 Gl [120]>>=fun x1=>
 Gl [112,105,110]>>=fun x2=>
 Fn 2>>=fun x3=>
 Ko 10 [x2,x3]>>=fun x4=>
 Fn 1>>=fun x5=>
 Ko 8 [x4,x5]>>=fun x6=>
 Gl [120]>>=fun x7=>
 Fn 3>>=fun x8=>
 Ko 13 [x7,x8]>>=fun x9=>
 B6 (I0.mk [(B0.mk 1 [112,105,110] (A0.mk 1 0 9 0 [] [] []) 0 (D0.mk 0 0 [] []) [] [] []),(B0.mk 4 [120] (A0.mk 1 0 3 0 [] [] []) 0 (D0.mk 0 0 [] []) [] [] [])] [(C0.mk 0 x1 x6 [] [] 0 0 0 [] [] []),(C0.mk 3 (D0.mk 0 0 [] []) x9 [] [] 0 0 0 [] [] [])])>>=fun x10=>
 idx [(C0.mk 0 x1 x6 [] [] 0 0 0 [] [] []),(C0.mk 3 (D0.mk 0 0 [] []) x9 [] [] 0 0 0 [] [] [])] 0>>=fun x11=>
 Cc (I0.mk [(B0.mk 1 [112,105,110] (A0.mk 1 0 9 0 [] [] []) 0 (D0.mk 0 0 [] []) [] [] []),(B0.mk 4 [120] (A0.mk 1 0 3 0 [] [] []) 0 (D0.mk 0 0 [] []) [] [] [])] [(C0.mk 0 x1 x6 [] [] 0 0 0 [] [] []),(C0.mk 3 (D0.mk 0 0 [] []) x9 [] [] 0 0 0 [] [] [])]) x11.Value>>=fun x12=>
 Pi (I0.mk [(B0.mk 1 [112,105,110] (A0.mk 1 0 9 0 [] [] []) 0 (D0.mk 0 0 [] []) [] [] []),(B0.mk 4 [120] (A0.mk 1 0 3 0 [] [] []) 0 (D0.mk 0 0 [] []) [] [] [])] [(C0.mk 0 x1 x6 [] [] 0 0 0 [] [] []),(C0.mk 3 (D0.mk 0 0 [] []) x9 [] [] 0 0 0 [] [] [])])>>=fun x13=>
 Gl [112,105,110]>>=fun x14=>
 Fn 1>>=fun x15=>
 B6 (I0.mk [(B0.mk 1 [112,105,110] (A0.mk 1 0 9 0 [] [] []) 0 (D0.mk 0 0 [] []) [] [] []),(B0.mk 4 [120] (A0.mk 1 0 3 0 [] [] []) 0 (D0.mk 0 0 [] []) [] [] [])] [(C0.mk 0 x14 x15 [] [] 0 0 0 [] [] [])])>>=fun x16=>
 some (bif (bif (bif (bif (bif (bif (bif (bif (x10.1 == (-1)) then (x10.2 == 0) else false) then (x12.1 == 1) else false) then (x12.2.1 == 19) else false) then (x12.2.2 == 0) else false) then (x13.1 == 2) else false) then (x13.2 == 0) else false) then (x16.1 == (-1)) else false) then (x16.2 == 15) else false)
theorem I1l {res}(hh:Im=some res):K0 C 11 [] [] (Ret [] (.d (.bool res))):=by
 unfold Im at hh
 obtain ⟨x1,hx1,hh⟩:=bs' hh
 obtain ⟨x2,hx2,hh⟩:=bs' hh
 obtain ⟨x3,hx3,hh⟩:=bs' hh
 obtain ⟨x4,hx4,hh⟩:=bs' hh
 obtain ⟨x5,hx5,hh⟩:=bs' hh
 obtain ⟨x6,hx6,hh⟩:=bs' hh
 obtain ⟨x7,hx7,hh⟩:=bs' hh
 obtain ⟨x8,hx8,hh⟩:=bs' hh
 obtain ⟨x9,hx9,hh⟩:=bs' hh
 obtain ⟨x10,hx10,hh⟩:=bs' hh
 obtain ⟨x11,hx11,hh⟩:=bs' hh
 obtain ⟨x12,hx12,hh⟩:=bs' hh
 obtain ⟨x13,hx13,hh⟩:=bs' hh
 obtain ⟨x14,hx14,hh⟩:=bs' hh
 obtain ⟨x15,hx15,hh⟩:=bs' hh
 obtain ⟨x16,hx16,hh⟩:=bs' hh
 cases hh
 refine K0.intro hC Tryz.func11 rfl rfl rfl (t' rfl (p' 4 rfl (E0.be hC rfl (B0.rows_map [(B0.mk 1 [112,105,110] (A0.mk 1 0 9 0 [] [] []) 0 (D0.mk 0 0 [] []) [] [] []),(B0.mk 4 [120] (A0.mk 1 0 3 0 [] [] []) 0 (D0.mk 0 0 [] []) [] [] [])]).symm (c' (Aq hx1) rfl rfl (c' (Aq hx2) rfl rfl (c' (Mr hx3) rfl rfl ?_))))))
 refine E0.be hC rfl (D0.rows_map [x2,x3]).symm (E0.cl rfl (Jw hx4) ⟨.rfl,.full,trivial⟩ rfl (c' (Mr hx5) rfl rfl (E0.be hC rfl (D0.rows_map [x4,x5]).symm (E0.cl rfl (Jw hx6) ⟨.rfl,.full,trivial⟩ rfl (q' rfl (c' (Aq hx7) rfl rfl (c' (Mr hx8) rfl rfl (E0.be hC rfl (D0.rows_map [x7,x8]).symm ?_))))))))
 refine E0.cl rfl (Jw hx9) ⟨.rfl,.full,trivial⟩ rfl (q' rfl (E0.be hC rfl (C0.rows_map [(C0.mk 0 x1 x6 [] [] 0 0 0 [] [] []),(C0.mk 3 (D0.mk 0 0 [] []) x9 [] [] 0 0 0 [] [] [])]).symm (q' rfl (E0.nf hC rfl (E0.s hC rfl (n' (p' 1 rfl (E0.cl rfl (Oi hx10) ⟨(.aggL ⟨.full,.full,trivial⟩),trivial⟩ rfl (e' rfl (S' (AEx.draw hC 14 rfl rfl rfl (O' 3 rfl ?_))))))))))))
 refine AQ.i hC rfl (U0 hx11) (C0.idx hx11) rfl (O' 2 rfl (AQ.cl rfl (Nv hx12) ⟨(.aggL ⟨.full,.full,trivial⟩),.rfl,trivial⟩ rfl (E' rfl (n' (p' 1 rfl (E0.cl rfl (L1a hx13) ⟨(.aggL ⟨.full,.full,trivial⟩),trivial⟩ rfl (e' rfl (S' ?_))))))))
 refine AEx.drawL hC 8 [] [(7,1)] [[.row [.full (B0.rows [(B0.mk 1 [112,105,110] (A0.mk 1 0 9 0 [] [] []) 0 (D0.mk 0 0 [] []) [] [] []),(B0.mk 4 [120] (A0.mk 1 0 3 0 [] [] []) 0 (D0.mk 0 0 [] []) [] [] [])]),.full (C0.rows [(C0.mk 0 x1 x6 [] [] 0 0 0 [] [] []),(C0.mk 3 (D0.mk 0 0 [] []) x9 [] [] 0 0 0 [] [] [])])] 25,.row [.full (B0.rows []),.full (C0.rows [])] 25]] rfl rfl rfl rfl rfl rfl rfl rfl rfl rfl ?_
 refine AS.q hC rfl rfl rfl rfl (AS.q hC rfl rfl rfl rfl (AS.c (Aq hx14) rfl rfl rfl rfl (AS.c (Mr hx15) rfl rfl rfl rfl (AS.q hC rfl rfl rfl rfl (AS.a rfl (fun H=>AQ.be hC rfl (C0.rows_map [(C0.mk 0 x14 x15 [] [] 0 0 0 [] [] [])]).symm (AQ.nil rfl)) rfl rfl (AS.q hC rfl rfl rfl rfl (AS.n hC rfl rfl rfl rfl (AS.nil (E0.s hC rfl (n' (p' 1 rfl ?_)))))))))))
 refine E0.cl rfl (Oi hx16) ⟨(.aggL ⟨.full,.full,trivial⟩),trivial⟩ rfl (e' rfl (sg' 35 rfl (G' 4 rfl (a1' rfl (pa' rfl (G' 2 rfl (a1' rfl (pa' rfl (G' 2 rfl (a1' rfl (pa' rfl (G' 2 rfl (a1' rfl ?_)))))))))))))
 refine pa' rfl (G' 2 rfl (a1' rfl (pa' rfl (G' 2 rfl (a1' rfl (pa' rfl (G' 2 rfl (a1' rfl (pa' rfl (G' 2 rfl (a1' rfl (pa' rfl (a0' rfl ?_)))))))))))))
 exact an' (n' (re' (rt' rfl rfl rfl)))
mutual
def D9 (t:A0)(left:Int):Option Int:=
 Oc t (IntKind.i64.wrap ((IntKind.i64.wrap (left - 1)) - (IntKind.i64.wrap (Int.tdiv ((t.Name).length:Int) 16)))) 0
 partial_fixpoint
def Oc (t:A0)(left1:Int)(i:Int):Option Int:=
 if (bif (decide (i < ((t.Names).length:Int))) then (decide (left1≥0)) else false)=true then
  idx t.Names i>>=fun x1=>
  Oc t (IntKind.i64.wrap ((IntKind.i64.wrap (left1 - 1)) - (IntKind.i64.wrap (Int.tdiv ((x1).length:Int) 16)))) (IntKind.i64.wrap (i+1))
 else
  Pc t left1 0
 partial_fixpoint
def Pc (t:A0)(left2:Int)(i1:Int):Option Int:=
 if (bif (decide (i1 < ((t.Of).length:Int))) then (decide (left2≥0)) else false)=true then
  idx t.Of i1>>=fun x2=>
  D9 x2 left2>>=fun x3=>
  Pc t x3 (IntKind.i64.wrap (i1+1))
 else
  some left2
 partial_fixpoint
end
abbrev Dz (t:A0)(left:Int)(res:Int):Prop:=K0 C 107 [.agg (A0.cells t),.d (.int .i64 left)] [] (Ret [] (.d (.int .i64 res)))
abbrev G18 (t:A0)(left1:Int)(i:Int)(res:Int):Prop:=LM C 54 0 Tryz.f107 [1,1,0,1,4] [(1,.d (.int .i64 left1)),(2,.ref 0 0),(5,.d (.int .i64 i))] [.row (A0.cells t) 40] (Ret [] (.d (.int .i64 res)))
abbrev H18 (t:A0)(left2:Int)(i1:Int)(res:Int):Prop:=LM C 54 0 Tryz.f107 [1,1,1,0,1,4] [(1,.d (.int .i64 left2)),(2,.ref 0 0),(6,.d (.int .i64 i1))] [.row (A0.cells t) 40] (Ret [] (.d (.int .i64 res)))
theorem M1a:(∀ t left res,D9 t left=some res→Dz t left res)∧(∀ t left1 i res,Oc t left1 i=some res→G18 t left1 i res)∧(∀ t left2 i1 res,Pc t left2 i1=some res→H18 t left2 i1 res):=by
 refine D9.mutual_partial_correctness _ _ _ ?_ ?_ ?_
 ·intro g1 ih1 t left res hh
  exact K0.intro hC Tryz.func107 rfl rfl rfl (s' rfl rfl (E0.n hC rfl (e' rfl (p' 5 rfl (qc' rfl (by decide) (e' rfl (S' (t' rfl (bk' (fw' (ih1 _ _ _ _ hh) rfl rfl rfl))))))))))
 ·intro g1 g2 ih1 ih2 t left1 i res hh
  refine W0.unroll (S' (sg' 9 rfl (G' 3 rfl (AG.qe hC rfl (fun hg=>⟨trivial,trivial⟩) (estr.lenA _) (G' 3 rfl (a1' rfl (pa' rfl (an' (n' (ci' rfl hh (fun hh=>?_) (fun hh=>?_)))))))))))
  ·obtain ⟨x1,hx1,hh⟩:=bs' hh
   exact sk' (S' (bk' (P' 5 rfl (i' rfl (U0 hx1) (estr.idx hx1) rfl (o' 2 rfl (qc' rfl (by decide) (e' rfl (T' rfl (lw' (ih1 _ _ _ _ hh) rfl rfl rfl)))))))))
  exact ex' (S' (t' rfl (bk' (fw' (ih2 _ _ _ _ hh) rfl rfl rfl))))
 ·intro g0 g2 ih0 ih2 t left2 i1 res hh
  refine W0.unroll (S' (sg' 9 rfl (G' 3 rfl (AG.qe hC rfl (fun hg=>⟨trivial,trivial⟩) (A0.lenA _) (G' 3 rfl (a1' rfl (pa' rfl (an' (n' (ci' rfl hh (fun hh=>?_) (fun hh=>?_)))))))))))
  ·obtain ⟨x2,hx2,hh⟩:=bs' hh
   obtain ⟨x3,hx3,hh⟩:=bs' hh
   exact sk' (S' (bk' (P' 3 rfl (i' rfl (U0 hx2) (A0.idx hx2) rfl (o' 2 rfl (c' (ih0 _ _ _ hx3) rfl rfl (e' rfl (T' rfl (lw' (ih2 _ _ _ _ hh) rfl rfl rfl)))))))))
  cases hh
  exact ex' (t' rfl (re' (rt' rfl rfl rfl)))
theorem Q1d {t left res}(hh:D9 t left=some res):Dz t left res:=(M1a).1 _ _ _ hh
mutual
def Z4 (e:D0)(left:Int):Option Int:=
 Rc e (IntKind.i64.wrap ((IntKind.i64.wrap (left - 1)) - (IntKind.i64.wrap (Int.tdiv ((e.Name).length:Int) 16)))) 0
 partial_fixpoint
def Rc (e:D0)(left1:Int)(i:Int):Option Int:=
 if (bif (decide (i < ((e.Kids).length:Int))) then (decide (left1≥0)) else false)=true then
  idx e.Kids i>>=fun x1=>
  Z4 x1 left1>>=fun x2=>
  Rc e x2 (IntKind.i64.wrap (i+1))
 else
  some left1
 partial_fixpoint
end
abbrev Ez (e:D0)(left:Int)(res:Int):Prop:=K0 C 40 [.agg (D0.cells e),.d (.int .i64 left)] [] (Ret [] (.d (.int .i64 res)))
abbrev I18 (e:D0)(left1:Int)(i:Int)(res:Int):Prop:=LM C 32 0 Tryz.f40 [1,1,0,1,4] [(1,.d (.int .i64 left1)),(2,.ref 0 0),(5,.d (.int .i64 i))] [.row (D0.cells e) 34] (Ret [] (.d (.int .i64 res)))
theorem N1a:(∀ e left res,Z4 e left=some res→Ez e left res)∧(∀ e left1 i res,Rc e left1 i=some res→I18 e left1 i res):=by
 refine Z4.mutual_partial_correctness _ _ ?_ ?_
 ·intro g1 ih1 e left res hh
  exact K0.intro hC Tryz.func40 rfl rfl rfl (s' rfl rfl (E0.n hC rfl (e' rfl (p' 5 rfl (qc' rfl (by decide) (e' rfl (S' (t' rfl (bk' (fw' (ih1 _ _ _ _ hh) rfl rfl rfl))))))))))
 ·intro g0 g1 ih0 ih1 e left1 i res hh
  refine W0.unroll (S' (sg' 9 rfl (G' 3 rfl (AG.qe hC rfl (fun hg=>⟨trivial,trivial⟩) (D0.lenA _) (G' 3 rfl (a1' rfl (pa' rfl (an' (n' (ci' rfl hh (fun hh=>?_) (fun hh=>?_)))))))))))
  ·obtain ⟨x1,hx1,hh⟩:=bs' hh
   obtain ⟨x2,hx2,hh⟩:=bs' hh
   exact sk' (S' (bk' (P' 3 rfl (i' rfl (U0 hx1) (D0.idx hx1) rfl (o' 2 rfl (c' (ih0 _ _ _ hx2) rfl rfl (e' rfl (T' rfl (lw' (ih1 _ _ _ _ hh) rfl rfl rfl)))))))))
  cases hh
  exact ex' (t' rfl (re' (rt' rfl rfl rfl)))
theorem Pf {e left res}(hh:Z4 e left=some res):Ez e left res:=(N1a).1 _ _ _ hh
mutual
def D5 (l:List C0)(left:Int):Option Int:=
 M8 l left 0
 partial_fixpoint
def M8 (l:List C0)(left2:Int)(i:Int):Option Int:=
 if (bif (decide (i < ((l).length:Int))) then (decide (left2≥0)) else false)=true then
  idx l i>>=fun x1=>
  Z4 x1.Place (IntKind.i64.wrap ((IntKind.i64.wrap (left2 - 1)) - (IntKind.i64.wrap (Int.tdiv ((x1.Name).length:Int) 16))))>>=fun x2=>
  Z4 x1.Value x2>>=fun x3=>
  Va l x1 x3 i 0
 else
  some left2
 partial_fixpoint
def Va (l:List C0)(x1:C0)(left1:Int)(i1:Int)(k:Int):Option Int:=
 if (bif (decide (k < ((x1.Args).length:Int))) then (decide (left1≥0)) else false)=true then
  idx x1.Args k>>=fun x4=>
  Z4 x4 left1>>=fun x5=>
  Va l x1 x5 i1 (IntKind.i64.wrap (k+1))
 else
  if (decide (((x1.Numbers).length:Int) > 100))=true then
   some (-1)
  else
   D5 x1.Then left1>>=fun x6=>
   D5 x1.Else x6>>=fun x7=>
   M8 l x7 (IntKind.i64.wrap (i1+1))
 partial_fixpoint
end
abbrev Rw (l:List C0)(left:Int)(res:Int):Prop:=K0 C 51 [.d (.sl (C0.rows l)),.d (.int .i64 left)] [] (Ret [] (.d (.int .i64 res)))
abbrev L15 (l:List C0)(left2:Int)(i:Int)(res:Int):Prop:=LM C 68 0 Tryz.f51 [1,0,1,4] [(0,.d (.sl (C0.rows l))),(1,.d (.int .i64 left2)),(5,.d (.int .i64 i))] [] (Ret [] (.d (.int .i64 res)))
abbrev M15 (l:List C0)(x1:C0)(left1:Int)(i1:Int)(k:Int)(res:Int):Prop:=LM C 68 0 Tryz.f51 [1,0,1,4,5,1,0,4,1,1,1,1,0,1,4] [(0,.d (.sl (C0.rows l))),(1,.d (.int .i64 left1)),(5,.d (.int .i64 i1)),(6,.ref 0 0),(7,.d (.int .i64 k))] [.row (C0.cells x1) 53] (Ret [] (.d (.int .i64 res)))
theorem J18:(∀ l left res,D5 l left=some res→Rw l left res)∧(∀ l left2 i res,M8 l left2 i=some res→L15 l left2 i res)∧(∀ l x1 left1 i1 k res,Va l x1 left1 i1 k=some res→M15 l x1 left1 i1 k res):=by
 refine D5.mutual_partial_correctness _ _ _ ?_ ?_ ?_
 ·intro g1 ih1 l left res hh
  exact K0.intro hC Tryz.func51 rfl rfl rfl (t' rfl (S' (t' rfl (bk' (fw' (ih1 _ _ _ _ hh) rfl rfl rfl)))))
 ·intro g2 ih2 l left2 i res hh
  refine W0.unroll (S' (sg' 8 rfl (G' 2 rfl (AG.qe hC rfl (fun hg=>⟨trivial,trivial⟩) (C0.lenA _) (G' 3 rfl (a1' rfl (pa' rfl (an' (n' (ci' rfl hh (fun hh=>?_) (fun hh=>?_)))))))))))
  ·obtain ⟨x1,hx1,hh⟩:=bs' hh
   obtain ⟨x2,hx2,hh⟩:=bs' hh
   obtain ⟨x3,hx3,hh⟩:=bs' hh
   refine sk' (S' (bk' (p' 2 rfl (i' rfl (U0 hx1) (C0.idx hx1) rfl (q' rfl (E0.nf hC rfl (E0.s hC rfl (n' (p' 5 rfl (qc' rfl (by decide) (e' rfl (p' 3 rfl (c' (Pf hx2) rfl rfl ?_)))))))))))))
   exact e' rfl (p' 3 rfl (c' (Pf hx3) rfl rfl (e' rfl (S' (t' rfl (bk' (fw' (ih2 _ _ _ _ _ _ hh) rfl rfl rfl)))))))
  cases hh
  exact ex' (t' rfl (re' (rt' rfl rfl rfl)))
 ·intro g0 g1 g2 ih0 ih1 ih2 l x1 left1 i1 k res hh
  refine W0.unroll (S' (sg' 9 rfl (G' 3 rfl (AG.qe hC rfl (fun hg=>⟨trivial,trivial⟩) (D0.lenA _) (G' 3 rfl (a1' rfl (pa' rfl (an' (n' (ci' rfl hh (fun hh=>?_) (fun hh=>?_)))))))))))
  ·obtain ⟨x4,hx4,hh⟩:=bs' hh
   obtain ⟨x5,hx5,hh⟩:=bs' hh
   exact sk' (S' (bk' (P' 3 rfl (i' rfl (U0 hx4) (D0.idx hx4) rfl (o' 2 rfl (c' (Pf hx5) rfl rfl (e' rfl (T' rfl (lw' (ih2 _ _ _ _ _ _ hh) rfl rfl rfl)))))))))
  refine ex' (S' (p' 2 rfl (qe' rfl trivial (ei64.lenA _) (e' rfl (ci' rfl hh (fun hh=>?_) (fun hh=>?_))))))
  ·cases hh
   exact t' rfl (re' (rt' rfl rfl rfl))
  obtain ⟨x6,hx6,hh⟩:=bs' hh
  obtain ⟨x7,hx7,hh⟩:=bs' hh
  exact sk' (p' 3 rfl (c' (ih0 _ _ _ hx6) rfl rfl (e' rfl (P' 3 rfl (c' (ih0 _ _ _ hx7) rfl rfl (e' rfl (T' rfl (lw' (ih1 _ _ _ _ hh) rfl rfl rfl))))))))
theorem Ov {l left res}(hh:D5 l left=some res):Rw l left res:=(J18).1 _ _ _ hh
mutual
def R9 (l:List B0)(left:Int):Option Int:=
 Wa l left 0
 partial_fixpoint
def Wa (l:List B0)(left1:Int)(i:Int):Option Int:=
 if (bif (decide (i < ((l).length:Int))) then (decide (left1≥0)) else false)=true then
  idx l i>>=fun x1=>
  D9 x1.TypeV (IntKind.i64.wrap ((IntKind.i64.wrap (left1 - 1)) - (IntKind.i64.wrap (Int.tdiv ((x1.Name).length:Int) 16))))>>=fun x2=>
  Z4 x1.Value x2>>=fun x3=>
  R9 x1.Params x3>>=fun x4=>
  R9 x1.Vars x4>>=fun x5=>
  D5 x1.Body x5>>=fun x6=>
  Wa l x6 (IntKind.i64.wrap (i+1))
 else
  some left1
 partial_fixpoint
end
abbrev Sw (l:List B0)(left:Int)(res:Int):Prop:=K0 C 52 [.d (.sl (B0.rows l)),.d (.int .i64 left)] [] (Ret [] (.d (.int .i64 res)))
abbrev N15 (l:List B0)(left1:Int)(i:Int)(res:Int):Prop:=LM C 49 0 Tryz.f52 [1,0,1,4] [(0,.d (.sl (B0.rows l))),(1,.d (.int .i64 left1)),(5,.d (.int .i64 i))] [] (Ret [] (.d (.int .i64 res)))
theorem K18:(∀ l left res,R9 l left=some res→Sw l left res)∧(∀ l left1 i res,Wa l left1 i=some res→N15 l left1 i res):=by
 refine R9.mutual_partial_correctness _ _ ?_ ?_
 ·intro g1 ih1 l left res hh
  exact K0.intro hC Tryz.func52 rfl rfl rfl (t' rfl (S' (t' rfl (bk' (fw' (ih1 _ _ _ _ hh) rfl rfl rfl)))))
 ·intro g0 g1 ih0 ih1 l left1 i res hh
  refine W0.unroll (S' (sg' 8 rfl (G' 2 rfl (AG.qe hC rfl (fun hg=>⟨trivial,trivial⟩) (B0.lenA _) (G' 3 rfl (a1' rfl (pa' rfl (an' (n' (ci' rfl hh (fun hh=>?_) (fun hh=>?_)))))))))))
  ·obtain ⟨x1,hx1,hh⟩:=bs' hh
   obtain ⟨x2,hx2,hh⟩:=bs' hh
   obtain ⟨x3,hx3,hh⟩:=bs' hh
   obtain ⟨x4,hx4,hh⟩:=bs' hh
   obtain ⟨x5,hx5,hh⟩:=bs' hh
   obtain ⟨x6,hx6,hh⟩:=bs' hh
   refine sk' (S' (bk' (p' 2 rfl (i' rfl (U0 hx1) (B0.idx hx1) rfl (q' rfl (E0.nf hC rfl (E0.s hC rfl (n' (p' 5 rfl (qc' rfl (by decide) (e' rfl (p' 3 rfl (c' (Q1d hx2) rfl rfl ?_)))))))))))))
   exact e' rfl (p' 3 rfl (c' (Pf hx3) rfl rfl (e' rfl (p' 3 rfl (c' (ih0 _ _ _ hx4) rfl rfl (e' rfl (p' 3 rfl (c' (ih0 _ _ _ hx5) rfl rfl (e' rfl (P' 3 rfl (c' (Ov hx6) rfl rfl (e' rfl (T' rfl (lw' (ih1 _ _ _ _ hh) rfl rfl rfl))))))))))))))
  cases hh
  exact ex' (t' rfl (re' (rt' rfl rfl rfl)))
theorem O1a {l left res}(hh:R9 l left=some res):Sw l left res:=(K18).1 _ _ _ hh
def Pv (p:I0)(most:Int):Option Bool:=
 R9 p.Decls most>>=fun x1=>
 D5 p.Body x1>>=fun x2=>
 some (decide (x2≥0))
theorem A1q {p most res}(hh:Pv p most=some res):K0 C 27 [.agg (I0.cells p),.d (.int .i64 most)] [] (Ret [] (.d (.bool res))):=by
 unfold Pv at hh
 obtain ⟨x1,hx1,hh⟩:=bs' hh
 obtain ⟨x2,hx2,hh⟩:=bs' hh
 cases hh
 exact K0.intro hC Tryz.func27 rfl rfl rfl (s' rfl rfl (E0.n hC rfl (e' rfl (S' (AEx.draw hC 9 rfl rfl rfl (O' 5 rfl (Qc' (O1a hx1) rfl rfl (Qc' (Ov hx2) rfl rfl (E' rfl (n' (re' (rt' rfl rfl rfl))))))))))))
def C11 (p:I0):Option Bool:=
 Pv p 300>>=fun x1=>
 some x1
theorem B1q {p res}(hh:C11 p=some res):K0 C 12 [.agg (I0.cells p)] [] (Ret [] (.d (.bool res))):=by
 unfold C11 at hh
 obtain ⟨x1,hx1,hh⟩:=bs' hh
 cases hh
 exact K0.intro hC Tryz.func12 rfl rfl rfl (s' rfl rfl (E0.n hC rfl (e' rfl (p' 1 rfl (c' (A1q hx1) rfl rfl (e' rfl (re' (rt' rfl rfl rfl))))))))
def Fk (k:Int):Option Bool:=
 some (bif (decide (k≥0)) then (decide (k≤6)) else false)
theorem Tw {k res}(hh:Fk k=some res):K0 C 124 [.d (.int .i64 k)] [] (Ret [] (.d (.bool res))):=by
 unfold Fk at hh
 cases hh
 exact K0.intro hC Tryz.func124 rfl rfl rfl (t' rfl (sg' 7 rfl (G' 4 rfl (a1' rfl (pa' rfl (a0' rfl (an' (n' (re' (rt' rfl rfl rfl))))))))))
mutual
def S7 (a:A0)(b:A0):Option Bool:=
 if (bif (bif (bif (bif (bif (bif (a.Kind != b.Kind) then true else (a.Low != b.Low)) then true else (a.High != b.High)) then true else (a.Size != b.Size)) then true else (!(a.Name == b.Name))) then true else (((a.Names).length:Int) != ((b.Names).length:Int))) then true else (((a.Of).length:Int) != ((b.Of).length:Int)))=true then
  some false
 else
  Xa a b 0
 partial_fixpoint
def Xa (a:A0)(b:A0)(i:Int):Option Bool:=
 if (decide (i < ((a.Names).length:Int)))=true then
  idx a.Names i>>=fun x1=>
  idx b.Names i>>=fun x2=>
  if (!(x1 == x2))=true then
   some false
  else
   Xa a b (IntKind.i64.wrap (i+1))
 else
  N8 a b 0
 partial_fixpoint
def N8 (a:A0)(b:A0)(i1:Int):Option Bool:=
 if (decide (i1 < ((a.Of).length:Int)))=true then
  idx a.Of i1>>=fun x3=>
  idx b.Of i1>>=fun x4=>
  S7 x3 x4>>=fun x5=>
  if (!x5)=true then
   some false
  else
   N8 a b (IntKind.i64.wrap (i1+1))
 else
  some true
 partial_fixpoint
end
abbrev Uw (a:A0)(b:A0)(res:Bool):Prop:=K0 C 18 [.agg (A0.cells a),.agg (A0.cells b)] [] (Ret [] (.d (.bool res)))
abbrev O15 (a:A0)(b:A0)(i:Int)(res:Bool):Prop:=LM C 95 0 Tryz.f18 [1,1,0,1,4] [(2,.ref 0 0),(3,.ref 1 0),(5,.d (.int .i64 i))] [.row (A0.cells a) 40,.row (A0.cells b) 40] (Ret [] (.d (.bool res)))
abbrev P15 (a:A0)(b:A0)(i1:Int)(res:Bool):Prop:=LM C 95 0 Tryz.f18 [1,1,1,0,1,4] [(2,.ref 0 0),(3,.ref 1 0),(6,.d (.int .i64 i1))] [.row (A0.cells a) 40,.row (A0.cells b) 40] (Ret [] (.d (.bool res)))
theorem L18:(∀ a b res,S7 a b=some res→Uw a b res)∧(∀ a b i res,Xa a b i=some res→O15 a b i res)∧(∀ a b i1 res,N8 a b i1=some res→P15 a b i1 res):=by
 refine S7.mutual_partial_correctness _ _ _ ?_ ?_ ?_
 ·intro g1 ih1 a b res hh
  refine K0.intro hC Tryz.func18 rfl rfl rfl (s' rfl rfl (E0.n hC rfl (E0.n hC rfl (e' rfl (S' (sg' 51 rfl (G' 7 rfl (a1' rfl (a0' rfl (a1' rfl (a2' rfl (po' rfl (G' 2 rfl ?_)))))))))))))
  refine a1' rfl (a0' rfl (a1' rfl (a2' rfl (po' rfl (G' 2 rfl (a1' rfl (a0' rfl (a1' rfl (a2' rfl (po' rfl (G' 2 rfl (a1' rfl (a0' rfl ?_)))))))))))))
  refine a1' rfl (a2' rfl (po' rfl (G' 2 rfl (a1' rfl (AG.qe hC rfl (fun hg=>⟨⟨hg,trivial⟩,trivial⟩) (estr.lenA _) (a0' rfl (a1' rfl (AG.qe hC rfl (fun hg=>⟨⟨hg,trivial⟩,trivial⟩) (estr.lenA _) (a2' rfl (po' rfl (G' 2 rfl (a1' rfl (AG.qe hC rfl (fun hg=>⟨⟨hg,trivial⟩,trivial⟩) (A0.lenA _) ?_)))))))))))))
  refine a0' rfl (a1' rfl (AG.qe hC rfl (fun hg=>⟨⟨hg,trivial⟩,trivial⟩) (A0.lenA _) (a2' rfl (po' rfl (an' (n' (ci' rfl hh (fun hh=>?_) (fun hh=>?_))))))))
  ·cases hh
   exact t' rfl (re' (rt' rfl rfl rfl))
  exact sk' (S' (t' rfl (bk' (fw' (ih1 _ _ _ _ hh) rfl rfl rfl))))
 ·intro g1 g2 ih1 ih2 a b i res hh
  refine W0.unroll (S' (p' 3 rfl (qe' rfl trivial (estr.lenA _) (e' rfl (ci' rfl hh (fun hh=>?_) (fun hh=>?_))))))
  ·obtain ⟨x1,hx1,hh⟩:=bs' hh
   obtain ⟨x2,hx2,hh⟩:=bs' hh
   refine sk' (S' (bk' (S' (AEx.draw hC 11 rfl rfl rfl (O' 3 rfl (AQ.i hC rfl (U0 hx1) (estr.idx hx1) rfl (O' 4 rfl (AQ.i hC rfl (U0 hx2) (estr.idx hx2) rfl (E' rfl (n' (ci' rfl hh (fun hh=>?_) (fun hh=>?_))))))))))))
   ·cases hh
    exact t' rfl (re' (rt' rfl rfl rfl))
   exact sk' (T' rfl (lw' (ih1 _ _ _ _ hh) rfl rfl rfl))
  exact ex' (S' (t' rfl (bk' (fw' (ih2 _ _ _ _ hh) rfl rfl rfl))))
 ·intro g0 g2 ih0 ih2 a b i1 res hh
  refine W0.unroll (S' (p' 3 rfl (qe' rfl trivial (A0.lenA _) (e' rfl (ci' rfl hh (fun hh=>?_) (fun hh=>?_))))))
  ·obtain ⟨x3,hx3,hh⟩:=bs' hh
   obtain ⟨x4,hx4,hh⟩:=bs' hh
   obtain ⟨x5,hx5,hh⟩:=bs' hh
   refine sk' (S' (bk' (S' (AEx.draw hC 12 rfl rfl rfl (O' 3 rfl (AQ.i hC rfl (U0 hx3) (A0.idx hx3) rfl (O' 4 rfl (AQ.i hC rfl (U0 hx4) (A0.idx hx4) rfl (Q' rfl (Qc' (ih0 _ _ _ hx5) rfl rfl (E' rfl (n' (ci' rfl hh (fun hh=>?_) (fun hh=>?_))))))))))))))
   ·cases hh
    exact t' rfl (re' (rt' rfl rfl rfl))
   exact sk' (T' rfl (lw' (ih2 _ _ _ _ hh) rfl rfl rfl))
  cases hh
  exact ex' (t' rfl (re' (rt' rfl rfl rfl)))
theorem Qv {a b res}(hh:S7 a b=some res):Uw a b res:=(L18).1 _ _ _ hh
def Gk (t:A0):Option Bool:=
 S7 t (A0.mk 0 0 0 0 [] [] [])>>=fun x1=>
 some x1
theorem R1d {t res}(hh:Gk t=some res):K0 C 217 [.agg (A0.cells t)] [] (Ret [] (.d (.bool res))):=by
 unfold Gk at hh
 obtain ⟨x1,hx1,hh⟩:=bs' hh
 cases hh
 exact K0.intro hC Tryz.func217 rfl rfl rfl (s' rfl rfl (E0.n hC rfl (e' rfl (p' 2 rfl (c' (Qv hx1) rfl rfl (e' rfl (re' (rt' rfl rfl rfl))))))))
mutual
def S9 (t:A0):Option Int:=
 Ya t 1 0
 partial_fixpoint
def Ya (t:A0)(n:Int)(i:Int):Option Int:=
 if (decide (i < ((t.Of).length:Int)))=true then
  idx t.Of i>>=fun x1=>
  S9 x1>>=fun x2=>
  Ya t (IntKind.i64.wrap (n+x2)) (IntKind.i64.wrap (i+1))
 else
  some n
 partial_fixpoint
end
abbrev Ww (t:A0)(res:Int):Prop:=K0 C 218 [.agg (A0.cells t)] [] (Ret [] (.d (.int .i64 res)))
abbrev Q15 (t:A0)(n:Int)(i:Int)(res:Int):Prop:=LM C 21 0 Tryz.f218 [1,1,0,1,4] [(1,.ref 0 0),(3,.d (.int .i64 n)),(4,.d (.int .i64 i))] [.row (A0.cells t) 40] (Ret [] (.d (.int .i64 res)))
theorem M18:(∀ t res,S9 t=some res→Ww t res)∧(∀ t n i res,Ya t n i=some res→Q15 t n i res):=by
 refine S9.mutual_partial_correctness _ _ ?_ ?_
 ·intro g1 ih1 t res hh
  exact K0.intro hC Tryz.func218 rfl rfl rfl (s' rfl rfl (E0.n hC rfl (e' rfl (t' rfl (S' (t' rfl (bk' (fw' (ih1 _ _ _ _ hh) rfl rfl rfl))))))))
 ·intro g0 g1 ih0 ih1 t n i res hh
  refine W0.unroll (S' (p' 3 rfl (qe' rfl trivial (A0.lenA _) (e' rfl (ci' rfl hh (fun hh=>?_) (fun hh=>?_))))))
  ·obtain ⟨x1,hx1,hh⟩:=bs' hh
   obtain ⟨x2,hx2,hh⟩:=bs' hh
   exact sk' (S' (bk' (P' 4 rfl (i' rfl (U0 hx1) (A0.idx hx1) rfl (q' rfl (c' (ih0 _ _ hx2) rfl rfl (e' rfl (T' rfl (lw' (ih1 _ _ _ _ hh) rfl rfl rfl)))))))))
  cases hh
  exact ex' (t' rfl (re' (rt' rfl rfl rfl)))
theorem P1a {t res}(hh:S9 t=some res):Ww t res:=(M18).1 _ _ hh
mutual
def T9 (t:A0):Option Int:=
 O8 t 0 0
 partial_fixpoint
def O8 (t:A0)(d:Int)(i:Int):Option Int:=
 if (decide (i < ((t.Of).length:Int)))=true then
  idx t.Of i>>=fun x1=>
  T9 x1>>=fun x2=>
  if (decide (x2 > d))=true then
   O8 t x2 (IntKind.i64.wrap (i+1))
  else
   O8 t d (IntKind.i64.wrap (i+1))
 else
  some (IntKind.i64.wrap (d+1))
 partial_fixpoint
end
abbrev Xw (t:A0)(res:Int):Prop:=K0 C 219 [.agg (A0.cells t)] [] (Ret [] (.d (.int .i64 res)))
abbrev R15 (t:A0)(d:Int)(i:Int)(res:Int):Prop:=LM C 25 0 Tryz.f219 [1,1,0,1,4] [(1,.ref 0 0),(3,.d (.int .i64 d)),(4,.d (.int .i64 i))] [.row (A0.cells t) 40] (Ret [] (.d (.int .i64 res)))
theorem N18:(∀ t res,T9 t=some res→Xw t res)∧(∀ t d i res,O8 t d i=some res→R15 t d i res):=by
 refine T9.mutual_partial_correctness _ _ ?_ ?_
 ·intro g1 ih1 t res hh
  exact K0.intro hC Tryz.func219 rfl rfl rfl (s' rfl rfl (E0.n hC rfl (e' rfl (t' rfl (S' (t' rfl (bk' (fw' (ih1 _ _ _ _ hh) rfl rfl rfl))))))))
 ·intro g0 g1 ih0 ih1 t d i res hh
  refine W0.unroll (S' (p' 3 rfl (qe' rfl trivial (A0.lenA _) (e' rfl (ci' rfl hh (fun hh=>?_) (fun hh=>?_))))))
  ·obtain ⟨x1,hx1,hh⟩:=bs' hh
   obtain ⟨x2,hx2,hh⟩:=bs' hh
   refine sk' (S' (bk' (p' 3 rfl (i' rfl (U0 hx1) (A0.idx hx1) rfl (q' rfl (c' (ih0 _ _ hx2) rfl rfl (e' rfl (t' rfl (ci' rfl hh (fun hh=>?_) (fun hh=>?_))))))))))
   ·exact T' rfl (T' rfl (lw' (ih1 _ _ _ _ hh) rfl rfl rfl))
   exact sk' (T' rfl (lw' (ih1 _ _ _ _ hh) rfl rfl rfl))
  cases hh
  exact ex' (t' rfl (re' (rt' rfl rfl rfl)))
theorem Q1a {t res}(hh:T9 t=some res):Xw t res:=(N18).1 _ _ hh
def S5 (s:V0)(d:Int):Option V0:=
 if (decide (d > s.depth))=true then
  some (V0.mk s.nodes d)
 else
  some s
theorem Il {s d res}(hh:S5 s d=some res):K0 C 158 [.agg (V0.cells s),.d (.int .i64 d)] [] (Ret [] (.agg (V0.cells res))):=by
 unfold S5 at hh
 refine K0.intro hC Tryz.func158 rfl rfl rfl (s' rfl rfl (E0.n hC rfl (E0.n hC rfl (n' (S' (t' rfl (ci' rfl hh (fun hh=>?_) (fun hh=>?_))))))))
 ·cases hh
  exact P' 2 rfl (E0.s hC rfl (n' (p' 1 rfl (E0.s hC rfl (n' (re' (rt' rfl rfl rfl)))))))
 cases hh
 exact sk' (p' 1 rfl (E0.s hC rfl (n' (re' (rt' rfl rfl rfl)))))
def Zc (s:V0)(t:A0)(used:Bool):Option V0:=
 (if (!used)=true then Gk t else some default)>>=fun x1=>
 if (bif (!used) then x1 else false)=true then
  some s
 else
  S9 t>>=fun x2=>
  T9 t>>=fun x3=>
  S5 (V0.mk (IntKind.i64.wrap (s.nodes+x2)) s.depth) x3>>=fun x4=>
  some x4
theorem Fz {s t used res}(hh:Zc s t used=some res):K0 C 190 [.agg (V0.cells s),.agg (A0.cells t),.d (.bool used)] [] (Ret [] (.agg (V0.cells res))):=by
 unfold Zc at hh
 obtain ⟨x1,hx1,hh⟩:=bs' hh
 refine K0.intro hC Tryz.func190 rfl rfl rfl (s' rfl rfl (E0.n hC rfl (E0.n hC rfl (E0.n hC rfl (n' (S' (sg' 6 rfl (G' 4 rfl (AG.c rfl rfl (fun hg=>⟨hg,trivial⟩) (fun hw=>R1d (G1 hw hx1)) (pa' rfl (an' (n' (ci' rfl hh (fun hh=>?_) (fun hh=>?_))))))))))))))
 ·cases hh
  exact p' 1 rfl (E0.s hC rfl (n' (re' (rt' rfl rfl rfl))))
 obtain ⟨x2,hx2,hh⟩:=bs' hh
 obtain ⟨x3,hx3,hh⟩:=bs' hh
 obtain ⟨x4,hx4,hh⟩:=bs' hh
 cases hh
 refine sk' (S' (AEx.draw hC 6 rfl rfl rfl (O' 3 rfl (Qc' (P1a hx2) rfl rfl (E' rfl (E0.s hC rfl (n' (S' (AEx.draw hC 4 rfl rfl rfl (O' 2 rfl (Qc' (Q1a hx3) rfl rfl (Qc' (Il hx4) rfl rfl (Qn' ?_)))))))))))))
 exact E0.s hC rfl (n' (re' (rt' rfl rfl rfl)))
def Xe (k:Int):Option Bool:=
 some (bif (k == 5) then true else (k == 6))
theorem On {k res}(hh:Xe k=some res):K0 C 126 [.d (.int .i64 k)] [] (Ret [] (.d (.bool res))):=by
 unfold Xe at hh
 cases hh
 exact K0.intro hC Tryz.func126 rfl rfl rfl (t' rfl (sg' 7 rfl (G' 4 rfl (a1' rfl (po' rfl (a0' rfl (an' (n' (re' (rt' rfl rfl rfl))))))))))
mutual
def U9 (a:D0)(b:D0):Option Bool:=
 if (bif (bif (bif (a.Op != b.Op) then true else (a.NV != b.NV)) then true else (!(a.Name == b.Name))) then true else (((a.Kids).length:Int) != ((b.Kids).length:Int)))=true then
  some false
 else
  Za a b 0
 partial_fixpoint
def Za (a:D0)(b:D0)(i:Int):Option Bool:=
 if (decide (i < ((a.Kids).length:Int)))=true then
  idx a.Kids i>>=fun x1=>
  idx b.Kids i>>=fun x2=>
  U9 x1 x2>>=fun x3=>
  if (!x3)=true then
   some false
  else
   Za a b (IntKind.i64.wrap (i+1))
 else
  some true
 partial_fixpoint
end
abbrev Yw (a:D0)(b:D0)(res:Bool):Prop:=K0 C 191 [.agg (D0.cells a),.agg (D0.cells b)] [] (Ret [] (.d (.bool res)))
abbrev S15 (a:D0)(b:D0)(i:Int)(res:Bool):Prop:=LM C 53 0 Tryz.f191 [1,1,0,1,4] [(2,.ref 0 0),(3,.ref 1 0),(5,.d (.int .i64 i))] [.row (D0.cells a) 34,.row (D0.cells b) 34] (Ret [] (.d (.bool res)))
theorem O18:(∀ a b res,U9 a b=some res→Yw a b res)∧(∀ a b i res,Za a b i=some res→S15 a b i res):=by
 refine U9.mutual_partial_correctness _ _ ?_ ?_
 ·intro g1 ih1 a b res hh
  refine K0.intro hC Tryz.func191 rfl rfl rfl (s' rfl rfl (E0.n hC rfl (E0.n hC rfl (e' rfl (S' (sg' 28 rfl (G' 7 rfl (a1' rfl (a0' rfl (a1' rfl (a2' rfl (po' rfl (G' 2 rfl ?_)))))))))))))
  refine a1' rfl (a0' rfl (a1' rfl (a2' rfl (po' rfl (G' 2 rfl (a1' rfl (AG.qe hC rfl (fun hg=>⟨⟨hg,trivial⟩,trivial⟩) (D0.lenA _) (a0' rfl (a1' rfl (AG.qe hC rfl (fun hg=>⟨⟨hg,trivial⟩,trivial⟩) (D0.lenA _) (a2' rfl (po' rfl (an' ?_)))))))))))))
  refine n' (ci' rfl hh (fun hh=>?_) (fun hh=>?_))
  ·cases hh
   exact t' rfl (re' (rt' rfl rfl rfl))
  exact sk' (S' (t' rfl (bk' (fw' (ih1 _ _ _ _ hh) rfl rfl rfl))))
 ·intro g0 g1 ih0 ih1 a b i res hh
  refine W0.unroll (S' (p' 3 rfl (qe' rfl trivial (D0.lenA _) (e' rfl (ci' rfl hh (fun hh=>?_) (fun hh=>?_))))))
  ·obtain ⟨x1,hx1,hh⟩:=bs' hh
   obtain ⟨x2,hx2,hh⟩:=bs' hh
   obtain ⟨x3,hx3,hh⟩:=bs' hh
   refine sk' (S' (bk' (S' (AEx.draw hC 12 rfl rfl rfl (O' 3 rfl (AQ.i hC rfl (U0 hx1) (D0.idx hx1) rfl (O' 4 rfl (AQ.i hC rfl (U0 hx2) (D0.idx hx2) rfl (Q' rfl (Qc' (ih0 _ _ _ hx3) rfl rfl (E' rfl (n' (ci' rfl hh (fun hh=>?_) (fun hh=>?_))))))))))))))
   ·cases hh
    exact t' rfl (re' (rt' rfl rfl rfl))
   exact sk' (T' rfl (lw' (ih1 _ _ _ _ hh) rfl rfl rfl))
  cases hh
  exact ex' (t' rfl (re' (rt' rfl rfl rfl)))
theorem R1a {a b res}(hh:U9 a b=some res):Yw a b res:=(O18).1 _ _ _ hh
def Ab (e:D0):Option Bool:=
 U9 e (D0.mk 0 0 [] [])>>=fun x1=>
 some x1
theorem Oj {e res}(hh:Ab e=some res):K0 C 127 [.agg (D0.cells e)] [] (Ret [] (.d (.bool res))):=by
 unfold Ab at hh
 obtain ⟨x1,hx1,hh⟩:=bs' hh
 cases hh
 exact K0.intro hC Tryz.func127 rfl rfl rfl (s' rfl rfl (E0.n hC rfl (e' rfl (p' 2 rfl (c' (R1a hx1) rfl rfl (e' rfl (re' (rt' rfl rfl rfl))))))))
mutual
def V9 (e:D0):Option Int:=
 Bb e 1 0
 partial_fixpoint
def Bb (e:D0)(n:Int)(i:Int):Option Int:=
 if (decide (i < ((e.Kids).length:Int)))=true then
  idx e.Kids i>>=fun x1=>
  V9 x1>>=fun x2=>
  Bb e (IntKind.i64.wrap (n+x2)) (IntKind.i64.wrap (i+1))
 else
  some n
 partial_fixpoint
end
abbrev Zw (e:D0)(res:Int):Prop:=K0 C 157 [.agg (D0.cells e)] [] (Ret [] (.d (.int .i64 res)))
abbrev T15 (e:D0)(n:Int)(i:Int)(res:Int):Prop:=LM C 21 0 Tryz.f157 [1,1,0,1,4] [(1,.ref 0 0),(3,.d (.int .i64 n)),(4,.d (.int .i64 i))] [.row (D0.cells e) 34] (Ret [] (.d (.int .i64 res)))
theorem P18:(∀ e res,V9 e=some res→Zw e res)∧(∀ e n i res,Bb e n i=some res→T15 e n i res):=by
 refine V9.mutual_partial_correctness _ _ ?_ ?_
 ·intro g1 ih1 e res hh
  exact K0.intro hC Tryz.func157 rfl rfl rfl (s' rfl rfl (E0.n hC rfl (e' rfl (t' rfl (S' (t' rfl (bk' (fw' (ih1 _ _ _ _ hh) rfl rfl rfl))))))))
 ·intro g0 g1 ih0 ih1 e n i res hh
  refine W0.unroll (S' (p' 3 rfl (qe' rfl trivial (D0.lenA _) (e' rfl (ci' rfl hh (fun hh=>?_) (fun hh=>?_))))))
  ·obtain ⟨x1,hx1,hh⟩:=bs' hh
   obtain ⟨x2,hx2,hh⟩:=bs' hh
   exact sk' (S' (bk' (P' 4 rfl (i' rfl (U0 hx1) (D0.idx hx1) rfl (q' rfl (c' (ih0 _ _ hx2) rfl rfl (e' rfl (T' rfl (lw' (ih1 _ _ _ _ hh) rfl rfl rfl)))))))))
  cases hh
  exact ex' (t' rfl (re' (rt' rfl rfl rfl)))
theorem S1a {e res}(hh:V9 e=some res):Zw e res:=(P18).1 _ _ hh
mutual
def W9 (e:D0):Option Int:=
 P8 e 0 0
 partial_fixpoint
def P8 (e:D0)(d:Int)(i:Int):Option Int:=
 if (decide (i < ((e.Kids).length:Int)))=true then
  idx e.Kids i>>=fun x1=>
  W9 x1>>=fun x2=>
  if (decide (x2 > d))=true then
   P8 e x2 (IntKind.i64.wrap (i+1))
  else
   P8 e d (IntKind.i64.wrap (i+1))
 else
  some (IntKind.i64.wrap (d+1))
 partial_fixpoint
end
abbrev Ax (e:D0)(res:Int):Prop:=K0 C 159 [.agg (D0.cells e)] [] (Ret [] (.d (.int .i64 res)))
abbrev U15 (e:D0)(d:Int)(i:Int)(res:Int):Prop:=LM C 25 0 Tryz.f159 [1,1,0,1,4] [(1,.ref 0 0),(3,.d (.int .i64 d)),(4,.d (.int .i64 i))] [.row (D0.cells e) 34] (Ret [] (.d (.int .i64 res)))
theorem Q18:(∀ e res,W9 e=some res→Ax e res)∧(∀ e d i res,P8 e d i=some res→U15 e d i res):=by
 refine W9.mutual_partial_correctness _ _ ?_ ?_
 ·intro g1 ih1 e res hh
  exact K0.intro hC Tryz.func159 rfl rfl rfl (s' rfl rfl (E0.n hC rfl (e' rfl (t' rfl (S' (t' rfl (bk' (fw' (ih1 _ _ _ _ hh) rfl rfl rfl))))))))
 ·intro g0 g1 ih0 ih1 e d i res hh
  refine W0.unroll (S' (p' 3 rfl (qe' rfl trivial (D0.lenA _) (e' rfl (ci' rfl hh (fun hh=>?_) (fun hh=>?_))))))
  ·obtain ⟨x1,hx1,hh⟩:=bs' hh
   obtain ⟨x2,hx2,hh⟩:=bs' hh
   refine sk' (S' (bk' (p' 3 rfl (i' rfl (U0 hx1) (D0.idx hx1) rfl (q' rfl (c' (ih0 _ _ hx2) rfl rfl (e' rfl (t' rfl (ci' rfl hh (fun hh=>?_) (fun hh=>?_))))))))))
   ·exact T' rfl (T' rfl (lw' (ih1 _ _ _ _ hh) rfl rfl rfl))
   exact sk' (T' rfl (lw' (ih1 _ _ _ _ hh) rfl rfl rfl))
  cases hh
  exact ex' (t' rfl (re' (rt' rfl rfl rfl)))
theorem T1a {e res}(hh:W9 e=some res):Ax e res:=(Q18).1 _ _ hh
def V5 (s:V0)(e:D0)(used:Bool):Option V0:=
 (if (!used)=true then Ab e else some default)>>=fun x1=>
 if (bif (!used) then x1 else false)=true then
  some s
 else
  V9 e>>=fun x2=>
  W9 e>>=fun x3=>
  S5 (V0.mk (IntKind.i64.wrap (s.nodes+x2)) s.depth) x3>>=fun x4=>
  some x4
theorem Eh {s e used res}(hh:V5 s e used=some res):K0 C 90 [.agg (V0.cells s),.agg (D0.cells e),.d (.bool used)] [] (Ret [] (.agg (V0.cells res))):=by
 unfold V5 at hh
 obtain ⟨x1,hx1,hh⟩:=bs' hh
 refine K0.intro hC Tryz.func90 rfl rfl rfl (s' rfl rfl (E0.n hC rfl (E0.n hC rfl (E0.n hC rfl (n' (S' (sg' 6 rfl (G' 4 rfl (AG.c rfl rfl (fun hg=>⟨hg,trivial⟩) (fun hw=>Oj (G1 hw hx1)) (pa' rfl (an' (n' (ci' rfl hh (fun hh=>?_) (fun hh=>?_))))))))))))))
 ·cases hh
  exact p' 1 rfl (E0.s hC rfl (n' (re' (rt' rfl rfl rfl))))
 obtain ⟨x2,hx2,hh⟩:=bs' hh
 obtain ⟨x3,hx3,hh⟩:=bs' hh
 obtain ⟨x4,hx4,hh⟩:=bs' hh
 cases hh
 refine sk' (S' (AEx.draw hC 6 rfl rfl rfl (O' 3 rfl (Qc' (S1a hx2) rfl rfl (E' rfl (E0.s hC rfl (n' (S' (AEx.draw hC 4 rfl rfl rfl (O' 2 rfl (Qc' (T1a hx3) rfl rfl (Qc' (Il hx4) rfl rfl (Qn' ?_)))))))))))))
 exact E0.s hC rfl (n' (re' (rt' rfl rfl rfl)))
def Ye (v:Int):Option Bool:=
 some (bif (bif (v == 0) then true else (v == 1)) then true else (v == 2))
theorem Pn {v res}(hh:Ye v=some res):K0 C 128 [.d (.int .i64 v)] [] (Ret [] (.d (.bool res))):=by
 unfold Ye at hh
 cases hh
 exact K0.intro hC Tryz.func128 rfl rfl rfl (t' rfl (sg' 11 rfl (G' 4 rfl (a1' rfl (po' rfl (G' 2 rfl (a1' rfl (po' rfl (a0' rfl (an' (n' (re' (rt' rfl rfl rfl)))))))))))))
def Ze (v:Int):Option Bool:=
 some (bif (bif (bif (v == 0) then true else (v == 3)) then true else (v == 5)) then true else (v == 6))
theorem Qn {v res}(hh:Ze v=some res):K0 C 130 [.d (.int .i64 v)] [] (Ret [] (.d (.bool res))):=by
 unfold Ze at hh
 cases hh
 refine K0.intro hC Tryz.func130 rfl rfl rfl (t' rfl (sg' 15 rfl (G' 4 rfl (a1' rfl (po' rfl (G' 2 rfl (a1' rfl (po' rfl (G' 2 rfl (a1' rfl (po' rfl (a0' rfl (an' ?_)))))))))))))
 exact n' (re' (rt' rfl rfl rfl))
mutual
def E9 (s:V0)(l:List C0)(d:Int):Option V0:=
 Sc l d s 0
 partial_fixpoint
def Sc (l:List C0)(d:Int)(o01:V0)(i:Int):Option V0:=
 if (decide (i < ((l).length:Int)))=true then
  idx l i>>=fun x1=>
  S5 (V0.mk (IntKind.i64.wrap (o01.nodes+1)) o01.depth) d>>=fun x2=>
  Ye x1.Verb>>=fun x3=>
  V5 x2 x1.Place x3>>=fun x4=>
  Ze x1.Verb>>=fun x5=>
  V5 x4 x1.Value x5>>=fun x6=>
  Qf l d x6 x1 i 0
 else
  some o01
 partial_fixpoint
def Qf (l:List C0)(d:Int)(o0:V0)(x1:C0)(i1:Int)(k:Int):Option V0:=
 if (decide (k < ((x1.Args).length:Int)))=true then
  idx x1.Args k>>=fun x7=>
  V5 o0 x7 true>>=fun x8=>
  Qf l d x8 x1 i1 (IntKind.i64.wrap (k+1))
 else
  E9 o0 x1.Then (IntKind.i64.wrap (d+1))>>=fun x9=>
  E9 x9 x1.Else (IntKind.i64.wrap (d+1))>>=fun x10=>
  Sc l d x10 (IntKind.i64.wrap (i1+1))
 partial_fixpoint
end
abbrev Gz (s:V0)(l:List C0)(d:Int)(res:V0):Prop:=K0 C 122 [.agg (V0.cells s),.d (.sl (C0.rows l)),.d (.int .i64 d)] [] (Ret [] (.agg (V0.cells res)))
abbrev R18 (l:List C0)(d:Int)(o01:V0)(i:Int)(res:V0):Prop:=LM C 68 0 Tryz.f122 [1,0,1,4] [(1,.d (.sl (C0.rows l))),(2,.d (.int .i64 d)),(3,.ref 0 0),(6,.ref 1 0),(7,.d (.int .i64 i))] [.row (V0.cells o01) 121,.row [.d (.int .i64 0),.d (.int .i64 0)] 121] (Ret [] (.agg (V0.cells res)))
abbrev S18 (l:List C0)(d:Int)(o0:V0)(x1:C0)(i1:Int)(k:Int)(res:V0):Prop:=LM C 68 0 Tryz.f122 [1,0,1,4,5,1,0,4,1,1,1,1,1,0,1,4] [(1,.d (.sl (C0.rows l))),(2,.d (.int .i64 d)),(3,.ref 0 0),(6,.ref 1 0),(7,.d (.int .i64 i1)),(8,.ref 2 0),(9,.d (.int .i64 k))] [.row (V0.cells o0) 121,.row [.d (.int .i64 0),.d (.int .i64 0)] 121,.row (C0.cells x1) 53] (Ret [] (.agg (V0.cells res)))
theorem U1a:(∀ s l d res,E9 s l d=some res→Gz s l d res)∧(∀ l d o01 i res,Sc l d o01 i=some res→R18 l d o01 i res)∧(∀ l d o0 x1 i1 k res,Qf l d o0 x1 i1 k=some res→S18 l d o0 x1 i1 k res):=by
 refine E9.mutual_partial_correctness _ _ _ ?_ ?_ ?_
 ·intro g1 ih1 s l d res hh
  exact K0.intro hC Tryz.func122 rfl rfl rfl (s' rfl rfl (E0.n hC rfl (E0.n hC rfl (n' (S' (t' rfl (bk' (fw' (ih1 _ _ _ _ _ hh) rfl rfl rfl))))))))
 ·intro g2 ih2 l d o01 i res hh
  refine W0.unroll (S' (p' 2 rfl (qe' rfl trivial (C0.lenA _) (e' rfl (ci' rfl hh (fun hh=>?_) (fun hh=>?_))))))
  ·obtain ⟨x1,hx1,hh⟩:=bs' hh
   obtain ⟨x2,hx2,hh⟩:=bs' hh
   obtain ⟨x3,hx3,hh⟩:=bs' hh
   obtain ⟨x4,hx4,hh⟩:=bs' hh
   obtain ⟨x5,hx5,hh⟩:=bs' hh
   obtain ⟨x6,hx6,hh⟩:=bs' hh
   refine sk' (S' (bk' (p' 2 rfl (i' rfl (U0 hx1) (C0.idx hx1) rfl (q' rfl (E0.nf hC rfl (E0.s hC rfl (n' (p' 4 rfl (E0.s hC rfl (n' (p' 2 rfl (c' (Il hx2) rfl rfl ?_)))))))))))))
   refine E0.s hC rfl (n' (S' (AEx.draw hC 7 rfl rfl rfl (O' 5 rfl (Qc' (Pn hx3) rfl rfl (Qc' (Eh hx4) rfl rfl (Qn' (E0.s hC rfl (n' (S' (AEx.draw hC 7 rfl rfl rfl (O' 5 rfl (Qc' (Qn hx5) rfl rfl ?_)))))))))))))
   exact Qc' (Eh hx6) rfl rfl (Qn' (E0.s hC rfl (n' (S' (t' rfl (bk' (fw' (ih2 _ _ _ _ _ _ _ hh) rfl rfl rfl)))))))
  cases hh
  exact ex' (p' 1 rfl (E0.s hC rfl (n' (re' (rt' rfl rfl rfl)))))
 ·intro g0 g1 g2 ih0 ih1 ih2 l d o0 x1 i1 k res hh
  refine W0.unroll (S' (p' 3 rfl (qe' rfl trivial (D0.lenA _) (e' rfl (ci' rfl hh (fun hh=>?_) (fun hh=>?_))))))
  ·obtain ⟨x7,hx7,hh⟩:=bs' hh
   obtain ⟨x8,hx8,hh⟩:=bs' hh
   exact sk' (S' (bk' (AEx.draw hC 7 rfl rfl rfl (O' 4 rfl (AQ.i hC rfl (U0 hx7) (D0.idx hx7) rfl (Q' rfl (Qc' (Eh hx8) rfl rfl (Qn' (E0.s hC rfl (n' (T' rfl (lw' (ih2 _ _ _ _ _ _ _ hh) rfl rfl rfl))))))))))))
  obtain ⟨x9,hx9,hh⟩:=bs' hh
  obtain ⟨x10,hx10,hh⟩:=bs' hh
  exact ex' (p' 5 rfl (c' (ih0 _ _ _ _ hx9) rfl rfl (E0.s hC rfl (n' (P' 5 rfl (c' (ih0 _ _ _ _ hx10) rfl rfl (E0.s hC rfl (n' (T' rfl (lw' (ih1 _ _ _ _ _ hh) rfl rfl rfl))))))))))
theorem Bx {s l d res}(hh:E9 s l d=some res):Gz s l d res:=(U1a).1 _ _ _ _ hh
mutual
def Cb (s:V0)(l:List B0):Option V0:=
 Tc l s 0
 partial_fixpoint
def Tc (l:List B0)(o0:V0)(i:Int):Option V0:=
 if (decide (i < ((l).length:Int)))=true then
  idx l i>>=fun x1=>
  Fk x1.Kind>>=fun x2=>
  Zc (V0.mk (IntKind.i64.wrap (o0.nodes+1)) o0.depth) x1.TypeV x2>>=fun x3=>
  Xe x1.Kind>>=fun x4=>
  V5 x3 x1.Value x4>>=fun x5=>
  Cb x5 x1.Params>>=fun x6=>
  Cb x6 x1.Vars>>=fun x7=>
  E9 x7 x1.Body 1>>=fun x8=>
  Tc l x8 (IntKind.i64.wrap (i+1))
 else
  some o0
 partial_fixpoint
end
abbrev Hz (s:V0)(l:List B0)(res:V0):Prop:=K0 C 123 [.agg (V0.cells s),.d (.sl (B0.rows l))] [] (Ret [] (.agg (V0.cells res)))
abbrev T18 (l:List B0)(o0:V0)(i:Int)(res:V0):Prop:=LM C 48 0 Tryz.f123 [1,0,1,4] [(1,.d (.sl (B0.rows l))),(2,.ref 0 0),(4,.ref 1 0),(5,.d (.int .i64 i))] [.row (V0.cells o0) 121,.row [.d (.int .i64 0),.d (.int .i64 0)] 121] (Ret [] (.agg (V0.cells res)))
theorem V1a:(∀ s l res,Cb s l=some res→Hz s l res)∧(∀ l o0 i res,Tc l o0 i=some res→T18 l o0 i res):=by
 refine Cb.mutual_partial_correctness _ _ ?_ ?_
 ·intro g1 ih1 s l res hh
  exact K0.intro hC Tryz.func123 rfl rfl rfl (s' rfl rfl (E0.n hC rfl (E0.n hC rfl (n' (S' (t' rfl (bk' (fw' (ih1 _ _ _ _ hh) rfl rfl rfl))))))))
 ·intro g0 g1 ih0 ih1 l o0 i res hh
  refine W0.unroll (S' (p' 2 rfl (qe' rfl trivial (B0.lenA _) (e' rfl (ci' rfl hh (fun hh=>?_) (fun hh=>?_))))))
  ·obtain ⟨x1,hx1,hh⟩:=bs' hh
   obtain ⟨x2,hx2,hh⟩:=bs' hh
   obtain ⟨x3,hx3,hh⟩:=bs' hh
   obtain ⟨x4,hx4,hh⟩:=bs' hh
   obtain ⟨x5,hx5,hh⟩:=bs' hh
   obtain ⟨x6,hx6,hh⟩:=bs' hh
   obtain ⟨x7,hx7,hh⟩:=bs' hh
   obtain ⟨x8,hx8,hh⟩:=bs' hh
   refine sk' (S' (bk' (p' 2 rfl (i' rfl (U0 hx1) (B0.idx hx1) rfl (q' rfl (E0.nf hC rfl (E0.s hC rfl (n' (p' 4 rfl (E0.s hC rfl (n' (S' (AEx.draw hC 7 rfl rfl rfl ?_)))))))))))))
   refine O' 5 rfl (Qc' (Tw hx2) rfl rfl (Qc' (Fz hx3) rfl rfl (Qn' (E0.s hC rfl (n' (S' (AEx.draw hC 7 rfl rfl rfl (O' 5 rfl (Qc' (On hx4) rfl rfl (Qc' (Eh hx5) rfl rfl (Qn' (E0.s hC rfl (n' ?_)))))))))))))
   exact p' 3 rfl (c' (ih0 _ _ _ hx6) rfl rfl (E0.s hC rfl (n' (p' 3 rfl (c' (ih0 _ _ _ hx7) rfl rfl (E0.s hC rfl (n' (P' 3 rfl (c' (Bx hx8) rfl rfl (E0.s hC rfl (n' (T' rfl (lw' (ih1 _ _ _ _ hh) rfl rfl rfl)))))))))))))
  cases hh
  exact ex' (p' 1 rfl (E0.s hC rfl (n' (re' (rt' rfl rfl rfl)))))
theorem S1d {s l res}(hh:Cb s l=some res):Hz s l res:=(V1a).1 _ _ _ hh
def Qp (p:I0):Option V0:=
 Cb (V0.mk 0 0) p.Decls>>=fun x1=>
 E9 x1 p.Body 1>>=fun x2=>
 some x2
theorem J1l {p res}(hh:Qp p=some res):K0 C 65 [.agg (I0.cells p)] [] (Ret [] (.agg (V0.cells res))):=by
 unfold Qp at hh
 obtain ⟨x1,hx1,hh⟩:=bs' hh
 obtain ⟨x2,hx2,hh⟩:=bs' hh
 cases hh
 refine K0.intro hC Tryz.func65 rfl rfl rfl (s' rfl rfl (E0.n hC rfl (E0.n hC rfl (n' (S' (AEx.draw hC 7 rfl rfl rfl (O' 3 rfl (Qc' (S1d hx1) rfl rfl (O' 2 rfl (Qc' (Bx hx2) rfl rfl (Qn' (E0.s hC rfl (n' ?_)))))))))))))
 exact re' (rt' rfl rfl rfl)
mutual
def F9 (t:A0):Option Bool:=
 if (bif (decide (t.Kind < 0)) then true else (decide (t.Kind > 4)))=true then
  some false
 else
  if (bif (bif (bif (bif (t.Kind != 1) then (bif (t.Low != 0) then true else (t.High != 0)) else false) then true else (bif (t.Kind != 2) then (t.Size != 0) else false)) then true else (bif (t.Kind != 4) then (!(t.Name == [])) else false)) then true else (bif (t.Kind != 3) then (((t.Names).length:Int) != 0) else false))=true then
   some false
  else
   if (bif (bif (bif (t.Kind == 2) then (((t.Of).length:Int) != 1) else false) then true else (bif (t.Kind == 3) then (bif (decide (((t.Of).length:Int) < 1)) then true else (((t.Of).length:Int) != ((t.Names).length:Int))) else false)) then true else (bif (bif (t.Kind != 2) then (t.Kind != 3) else false) then (((t.Of).length:Int) != 0) else false))=true then
    some false
   else
    Uc t 0
 partial_fixpoint
def Uc (t:A0)(i:Int):Option Bool:=
 if (decide (i < ((t.Of).length:Int)))=true then
  idx t.Of i>>=fun x1=>
  F9 x1>>=fun x2=>
  if (!x2)=true then
   some false
  else
   Uc t (IntKind.i64.wrap (i+1))
 else
  some true
 partial_fixpoint
end
abbrev Iz (t:A0)(res:Bool):Prop:=K0 C 125 [.agg (A0.cells t)] [] (Ret [] (.d (.bool res)))
abbrev U18 (t:A0)(i:Int)(res:Bool):Prop:=LM C 115 0 Tryz.f125 [1,1,1,1,0,1,4] [(1,.ref 0 0),(3,.d (.int .i64 i))] [.row (A0.cells t) 40] (Ret [] (.d (.bool res)))
theorem W1a:(∀ t res,F9 t=some res→Iz t res)∧(∀ t i res,Uc t i=some res→U18 t i res):=by
 refine F9.mutual_partial_correctness _ _ ?_ ?_
 ·intro g1 ih1 t res hh
  refine K0.intro hC Tryz.func125 rfl rfl rfl (s' rfl rfl (E0.n hC rfl (e' rfl (S' (sg' 8 rfl (G' 5 rfl (a1' rfl (a1' rfl (po' rfl (an' (n' (ci' rfl hh (fun hh=>?_) (fun hh=>?_)))))))))))))
  ·cases hh
   exact t' rfl (re' (rt' rfl rfl rfl))
  refine sk' (S' (sg' 44 rfl (G' 5 rfl (a1' rfl (a1' rfl (a1' rfl (a0' rfl (a1' rfl (a1' rfl (pO' rfl (pa' rfl (G' 2 rfl (a1' rfl ?_)))))))))))))
  refine a1' rfl (a1' rfl (a0' rfl (a1' rfl (a1' rfl (pA' rfl (po' rfl (G' 2 rfl (a1' rfl (a1' rfl (a1' rfl (a0' rfl (a1' rfl (a1' rfl ?_)))))))))))))
  refine pA' rfl (po' rfl (G' 2 rfl (a1' rfl (a1' rfl (a1' rfl (a0' rfl (a1' rfl (AG.qe hC rfl (fun hg=>⟨⟨hg,trivial⟩,trivial⟩) (estr.lenA _) (a1' rfl (pA' rfl (po' rfl (an' (n' (ci' rfl hh (fun hh=>?_) (fun hh=>?_)))))))))))))))
  ·cases hh
   exact t' rfl (re' (rt' rfl rfl rfl))
  refine sk' (S' (sg' 45 rfl (G' 5 rfl (a1' rfl (AG.qe hC rfl (fun hg=>⟨⟨hg,trivial⟩,trivial⟩) (A0.lenA _) (a1' rfl (pa' rfl (G' 2 rfl (a1' rfl (a1' rfl (a1' rfl (a0' rfl (a1' rfl ?_)))))))))))))
  refine AG.qe hC rfl (fun hg=>⟨⟨hg,trivial⟩,trivial⟩) (A0.lenA _) (a1' rfl (a1' rfl (a0' rfl (a1' rfl (AG.qe hC rfl (fun hg=>⟨⟨hg,trivial⟩,trivial⟩) (A0.lenA _) (a0' rfl (a1' rfl (AG.qe hC rfl (fun hg=>⟨⟨hg,trivial⟩,trivial⟩) (estr.lenA _) (a2' rfl (pO' rfl (pA' rfl (po' rfl (G' 2 rfl ?_)))))))))))))
  refine a1' rfl (a1' rfl (a1' rfl (a0' rfl (a1' rfl (a1' rfl (pA' rfl (a1' rfl (a0' rfl (a1' rfl (AG.qe hC rfl (fun hg=>⟨⟨hg,trivial⟩,trivial⟩) (A0.lenA _) (a1' rfl (pA' rfl (po' rfl ?_)))))))))))))
  refine an' (n' (ci' rfl hh (fun hh=>?_) (fun hh=>?_)))
  ·cases hh
   exact t' rfl (re' (rt' rfl rfl rfl))
  exact sk' (S' (t' rfl (bk' (fw' (ih1 _ _ _ hh) rfl rfl rfl))))
 ·intro g0 g1 ih0 ih1 t i res hh
  refine W0.unroll (S' (p' 3 rfl (qe' rfl trivial (A0.lenA _) (e' rfl (ci' rfl hh (fun hh=>?_) (fun hh=>?_))))))
  ·obtain ⟨x1,hx1,hh⟩:=bs' hh
   obtain ⟨x2,hx2,hh⟩:=bs' hh
   refine sk' (S' (bk' (p' 3 rfl (i' rfl (U0 hx1) (A0.idx hx1) rfl (q' rfl (c' (ih0 _ _ hx2) rfl rfl (e' rfl (ci' rfl hh (fun hh=>?_) (fun hh=>?_)))))))))
   ·cases hh
    exact t' rfl (re' (rt' rfl rfl rfl))
   exact sk' (T' rfl (lw' (ih1 _ _ _ hh) rfl rfl rfl))
  cases hh
  exact ex' (t' rfl (re' (rt' rfl rfl rfl)))
theorem Dx {t res}(hh:F9 t=some res):Iz t res:=(W1a).1 _ _ hh
end Go.Proofs.YtdkabnfphmmmnaaGreatDoor

set_option maxRecDepth 100000
set_option maxHeartbeats 4000000
set_option synthInstance.maxSize 20000
set_option linter.unusedVariables false
namespace Go.Proofs.YtdkabnfphmmmnaaGreatDoor
open Go.Am
def As (o:Int):Option Int:=
 if (bif (bif (bif (o == 0) then true else (o == 1)) then true else (o == 2)) then true else (o == 3))=true then
  some 0
 else
  if (bif (bif (o == 4) then true else (o == 6)) then true else (o == 7))=true then
   some 1
  else
   if (bif (o == 5) then true else (bif (decide (o≥8)) then (decide (o≤22)) else false))=true then
    some 2
   else
    if (o == 23)=true then
     some 3
    else
     some (-1)
theorem E1o {o res}(hh:As o=some res):K0 C 160 [.d (.int .i64 o)] [] (Ret [] (.d (.int .i64 res))):=by
 unfold As at hh
 refine K0.intro hC Tryz.func160 rfl rfl rfl (t' rfl (S' (sg' 14 rfl (G' 4 rfl (a1' rfl (po' rfl (G' 2 rfl (a1' rfl (po' rfl (G' 2 rfl (a1' rfl (po' rfl (an' ?_)))))))))))))
 refine n' (ci' rfl hh (fun hh=>?_) (fun hh=>?_))
 ·cases hh
  exact t' rfl (re' (rt' rfl rfl rfl))
 refine sk' (S' (sg' 10 rfl (G' 4 rfl (a1' rfl (po' rfl (G' 2 rfl (a1' rfl (po' rfl (an' (n' (ci' rfl hh (fun hh=>?_) (fun hh=>?_))))))))))))
 ·cases hh
  exact t' rfl (re' (rt' rfl rfl rfl))
 refine sk' (S' (sg' 10 rfl (G' 4 rfl (a1' rfl (a1' rfl (a0' rfl (a1' rfl (pA' rfl (po' rfl (an' (n' (ci' rfl hh (fun hh=>?_) (fun hh=>?_)))))))))))))
 ·cases hh
  exact t' rfl (re' (rt' rfl rfl rfl))
 refine sk' (S' (t' rfl (ci' rfl hh (fun hh=>?_) (fun hh=>?_))))
 ·cases hh
  exact t' rfl (re' (rt' rfl rfl rfl))
 cases hh
 exact sk' (t' rfl (re' (rt' rfl rfl rfl)))
def Ad (e:D0):Option Bool:=
 if (e.Op == 3)=true then
  some true
 else
  (if (bif (bif (e.Op == 4) then true else (e.Op == 5)) then (decide (((e.Kids).length:Int) > 0)) else false)=true then idx e.Kids 0 else some default)>>=fun x1=>
  (if (bif (bif (e.Op == 4) then true else (e.Op == 5)) then (decide (((e.Kids).length:Int) > 0)) else false)=true then Ad x1 else some default)>>=fun x2=>
  some (bif (bif (bif (e.Op == 4) then true else (e.Op == 5)) then (decide (((e.Kids).length:Int) > 0)) else false) then x2 else false)
 partial_fixpoint
abbrev D11 (e:D0)(res:Bool):Prop:=K0 C 129 [.agg (D0.cells e)] [] (Ret [] (.d (.bool res)))
theorem T1d:(∀ e res,Ad e=some res→D11 e res):=by
 refine Ad.partial_correctness _ ?_
 ·intro g0 ih0 e res hh
  refine K0.intro hC Tryz.func129 rfl rfl rfl (s' rfl rfl (E0.n hC rfl (e' rfl (S' (t' rfl (ci' rfl hh (fun hh=>?_) (fun hh=>?_)))))))
  ·cases hh
   exact t' rfl (re' (rt' rfl rfl rfl))
  obtain ⟨x1,hx1,hh⟩:=bs' hh
  obtain ⟨x2,hx2,hh⟩:=bs' hh
  cases hh
  refine sk' (sg' 22 rfl (G' 5 rfl (a1' rfl (a1' rfl (po' rfl (G' 2 rfl (a1' rfl (AG.qe hC rfl (fun hg=>⟨⟨hg,trivial⟩,trivial⟩) (D0.lenA _) (a1' rfl (pa' rfl (G' 2 rfl (a1' rfl (AG.i hC rfl rfl (fun hg=>⟨hg,trivial⟩) (fun hw=>⟨U0 (G1 hw hx1),D0.idx (G1 hw hx1),rfl⟩) ?_)))))))))))))
  exact a1' rfl (AG.c rfl rfl (fun hg=>⟨hg,trivial⟩) (fun hw=>ih0 _ _ (G1 hw hx2)) (pa' rfl (a0' rfl (an' (n' (re' (rt' rfl rfl rfl)))))))
theorem Jz {e res}(hh:Ad e=some res):D11 e res:=(T1d) _ _ hh
mutual
def K4 (e:D0):Option Bool:=
 As e.Op>>=fun x1=>
 if (bif (bif (x1 != ((e.Kids).length:Int)) then true else (bif (e.Op != 0) then (e.NV != 0) else false)) then true else (bif (bif (e.Op != 3) then (e.Op != 4) else false) then (!(e.Name == [])) else false))=true then
  some false
 else
  (if (bif (e.Op == 4) then true else (e.Op == 5))=true then Ad e else some default)>>=fun x2=>
  if (bif (bif (e.Op == 4) then true else (e.Op == 5)) then (!x2) else false)=true then
   some false
  else
   Vc e 0
 partial_fixpoint
def Vc (e:D0)(i:Int):Option Bool:=
 if (decide (i < ((e.Kids).length:Int)))=true then
  idx e.Kids i>>=fun x3=>
  K4 x3>>=fun x4=>
  if (!x4)=true then
   some false
  else
   Vc e (IntKind.i64.wrap (i+1))
 else
  some true
 partial_fixpoint
end
abbrev Kz (e:D0)(res:Bool):Prop:=K0 C 91 [.agg (D0.cells e)] [] (Ret [] (.d (.bool res)))
abbrev V18 (e:D0)(i:Int)(res:Bool):Prop:=LM C 63 0 Tryz.f91 [1,1,1,0,1,4] [(1,.ref 0 0),(3,.d (.int .i64 i))] [.row (D0.cells e) 34] (Ret [] (.d (.bool res)))
theorem X1a:(∀ e res,K4 e=some res→Kz e res)∧(∀ e i res,Vc e i=some res→V18 e i res):=by
 refine K4.mutual_partial_correctness _ _ ?_ ?_
 ·intro g1 ih1 e res hh
  obtain ⟨x1,hx1,hh⟩:=bs' hh
  refine K0.intro hC Tryz.func91 rfl rfl rfl (s' rfl rfl (E0.n hC rfl (e' rfl (S' (S' (AEx.drawG hC 32 rfl rfl rfl (G' 2 rfl (AG.c rfl rfl (fun _=>trivial) (fun _=>E1o hx1) (G' 2 rfl (AG.qe hC rfl (fun hg=>⟨trivial,trivial⟩) (D0.lenA _) (G' 3 rfl (a1' rfl (a1' rfl ?_)))))))))))))
  refine a1' rfl (a0' rfl (a1' rfl (a1' rfl (pA' rfl (po' rfl (G' 2 rfl (a1' rfl (a1' rfl (a1' rfl (a0' rfl (a1' rfl (a1' rfl (pA' rfl ?_)))))))))))))
  refine a1' rfl (a0' rfl (a1' rfl (a1' rfl (pA' rfl (po' rfl (an' (n' (ci' rfl hh (fun hh=>?_) (fun hh=>?_)))))))))
  ·cases hh
   exact t' rfl (re' (rt' rfl rfl rfl))
  obtain ⟨x2,hx2,hh⟩:=bs' hh
  refine sk' (S' (sg' 13 rfl (G' 5 rfl (a1' rfl (a1' rfl (po' rfl (G' 2 rfl (AG.c rfl rfl (fun hg=>⟨hg,trivial⟩) (fun hw=>Jz (G1 hw hx2)) (a1' rfl (pa' rfl (an' (n' (ci' rfl hh (fun hh=>?_) (fun hh=>?_))))))))))))))
  ·cases hh
   exact t' rfl (re' (rt' rfl rfl rfl))
  exact sk' (S' (t' rfl (bk' (fw' (ih1 _ _ _ hh) rfl rfl rfl))))
 ·intro g0 g1 ih0 ih1 e i res hh
  refine W0.unroll (S' (p' 3 rfl (qe' rfl trivial (D0.lenA _) (e' rfl (ci' rfl hh (fun hh=>?_) (fun hh=>?_))))))
  ·obtain ⟨x3,hx3,hh⟩:=bs' hh
   obtain ⟨x4,hx4,hh⟩:=bs' hh
   refine sk' (S' (bk' (p' 3 rfl (i' rfl (U0 hx3) (D0.idx hx3) rfl (q' rfl (c' (ih0 _ _ hx4) rfl rfl (e' rfl (ci' rfl hh (fun hh=>?_) (fun hh=>?_)))))))))
   ·cases hh
    exact t' rfl (re' (rt' rfl rfl rfl))
   exact sk' (T' rfl (lw' (ih1 _ _ _ hh) rfl rfl rfl))
  cases hh
  exact ex' (t' rfl (re' (rt' rfl rfl rfl)))
theorem Rf {e res}(hh:K4 e=some res):Kz e res:=(X1a).1 _ _ hh
def Hk (v:Int):Option Bool:=
 some (bif (bif (v == 1) then true else (v == 2)) then true else (v == 7))
theorem Gx {v res}(hh:Hk v=some res):K0 C 106 [.d (.int .i64 v)] [] (Ret [] (.d (.bool res))):=by
 unfold Hk at hh
 cases hh
 exact K0.intro hC Tryz.func106 rfl rfl rfl (t' rfl (sg' 11 rfl (G' 4 rfl (a1' rfl (po' rfl (G' 2 rfl (a1' rfl (po' rfl (a0' rfl (an' (n' (re' (rt' rfl rfl rfl)))))))))))))
def Uu (v:Int):Option Bool:=
 some (bif (v == 4) then true else (v == 6))
theorem K1l {v res}(hh:Uu v=some res):K0 C 131 [.d (.int .i64 v)] [] (Ret [] (.d (.bool res))):=by
 unfold Uu at hh
 cases hh
 exact K0.intro hC Tryz.func131 rfl rfl rfl (t' rfl (sg' 7 rfl (G' 4 rfl (a1' rfl (po' rfl (a0' rfl (an' (n' (re' (rt' rfl rfl rfl))))))))))
def Oo (v:Int):Option Bool:=
 some (bif (bif (v == 5) then true else (v == 6)) then true else (v == 7))
theorem U1d {v res}(hh:Oo v=some res):K0 C 132 [.d (.int .i64 v)] [] (Ret [] (.d (.bool res))):=by
 unfold Oo at hh
 cases hh
 exact K0.intro hC Tryz.func132 rfl rfl rfl (t' rfl (sg' 11 rfl (G' 4 rfl (a1' rfl (po' rfl (G' 2 rfl (a1' rfl (po' rfl (a0' rfl (an' (n' (re' (rt' rfl rfl rfl)))))))))))))
mutual
def T7 (l:List C0):Option Bool:=
 Db l 0
 partial_fixpoint
def Db (l:List C0)(i:Int):Option Bool:=
 if (decide (i < ((l).length:Int)))=true then
  idx l i>>=fun x1=>
  if (bif (decide (x1.Verb < 0)) then true else (decide (x1.Verb > 8)))=true then
   some false
  else
   Ye x1.Verb>>=fun x2=>
   (if x2=true then Ad x1.Place else some default)>>=fun x3=>
   (if (x2&&(!(!x3)))=true then K4 x1.Place else some default)>>=fun x4=>
   (if (!(bif x2 then (bif (!x3) then true else (!x4)) else false))=true then Ye x1.Verb else some default)>>=fun x5=>
   (if ((!(bif x2 then (bif (!x3) then true else (!x4)) else false))&&(!x5))=true then Ab x1.Place else some default)>>=fun x6=>
   if (bif (bif x2 then (bif (!x3) then true else (!x4)) else false) then true else (bif (!x5) then (!x6) else false))=true then
    some false
   else
    Ze x1.Verb>>=fun x7=>
    (if x7=true then K4 x1.Value else some default)>>=fun x8=>
    (if (!(bif x7 then (!x8) else false))=true then Ze x1.Verb else some default)>>=fun x9=>
    (if ((!(bif x7 then (!x8) else false))&&(!x9))=true then Ab x1.Value else some default)>>=fun x10=>
    if (bif (bif x7 then (!x8) else false) then true else (bif (!x9) then (!x10) else false))=true then
     some false
    else
     Hk x1.Verb>>=fun x11=>
     (if (!(bif (bif (!x11) then (!(x1.Name == [])) else false) then true else (bif (x1.Verb != 1) then (((x1.Args).length:Int) != 0) else false)))=true then Uu x1.Verb else some default)>>=fun x12=>
     if (bif (bif (bif (bif (bif (!x11) then (!(x1.Name == [])) else false) then true else (bif (x1.Verb != 1) then (((x1.Args).length:Int) != 0) else false)) then true else (bif (!x12) then (x1.NV != 0) else false)) then true else (bif (x1.Verb != 7) then (bif (x1.Low != 0) then true else (x1.High != 0)) else false)) then true else (bif (x1.Verb != 8) then (((x1.Numbers).length:Int) != 0) else false))=true then
      some false
     else
      Oo x1.Verb>>=fun x13=>
      if (bif (bif (!x13) then (((x1.Then).length:Int) != 0) else false) then true else (bif (x1.Verb != 5) then (((x1.Else).length:Int) != 0) else false))=true then
       some false
      else
       Me l x1 i 0
 else
  some true
 partial_fixpoint
def Me (l:List C0)(x1:C0)(i1:Int)(k:Int):Option Bool:=
 if (decide (k < ((x1.Args).length:Int)))=true then
  idx x1.Args k>>=fun x14=>
  K4 x14>>=fun x15=>
  if (!x15)=true then
   some false
  else
   Me l x1 i1 (IntKind.i64.wrap (k+1))
 else
  T7 x1.Then>>=fun x16=>
  (if (!(!x16))=true then T7 x1.Else else some default)>>=fun x17=>
  if (bif (!x16) then true else (!x17))=true then
   some false
  else
   Db l (IntKind.i64.wrap (i1+1))
 partial_fixpoint
end
abbrev Hx (l:List C0)(res:Bool):Prop:=K0 C 67 [.d (.sl (C0.rows l))] [] (Ret [] (.d (.bool res)))
abbrev V15 (l:List C0)(i:Int)(res:Bool):Prop:=LM C 174 0 Tryz.f67 [1,0,1,4] [(0,.d (.sl (C0.rows l))),(3,.d (.int .i64 i))] [] (Ret [] (.d (.bool res)))
abbrev W15 (l:List C0)(x1:C0)(i1:Int)(k:Int)(res:Bool):Prop:=LM C 174 0 Tryz.f67 [1,0,1,4,5,1,0,4,1,1,1,1,1,1,0,1,4] [(0,.d (.sl (C0.rows l))),(3,.d (.int .i64 i1)),(4,.ref 0 0),(5,.d (.int .i64 k))] [.row (C0.cells x1) 53] (Ret [] (.d (.bool res)))
theorem W18:(∀ l res,T7 l=some res→Hx l res)∧(∀ l i res,Db l i=some res→V15 l i res)∧(∀ l x1 i1 k res,Me l x1 i1 k=some res→W15 l x1 i1 k res):=by
 refine T7.mutual_partial_correctness _ _ _ ?_ ?_ ?_
 ·intro g1 ih1 l res hh
  exact K0.intro hC Tryz.func67 rfl rfl rfl (t' rfl (S' (t' rfl (bk' (fw' (ih1 _ _ _ hh) rfl rfl rfl)))))
 ·intro g2 ih2 l i res hh
  refine W0.unroll (S' (p' 2 rfl (qe' rfl trivial (C0.lenA _) (e' rfl (ci' rfl hh (fun hh=>?_) (fun hh=>?_))))))
  ·obtain ⟨x1,hx1,hh⟩:=bs' hh
   refine sk' (S' (bk' (p' 2 rfl (i' rfl (U0 hx1) (C0.idx hx1) rfl (q' rfl (E0.nf hC rfl (E0.s hC rfl (n' (S' (sg' 8 rfl (G' 5 rfl (a1' rfl (a1' rfl ?_)))))))))))))
   refine po' rfl (an' (n' (ci' rfl hh (fun hh=>?_) (fun hh=>?_))))
   ·cases hh
    exact t' rfl (re' (rt' rfl rfl rfl))
   obtain ⟨x2,hx2,hh⟩:=bs' hh
   obtain ⟨x3,hx3,hh⟩:=bs' hh
   obtain ⟨x4,hx4,hh⟩:=bs' hh
   obtain ⟨x5,hx5,hh⟩:=bs' hh
   obtain ⟨x6,hx6,hh⟩:=bs' hh
   refine sk' (S' (sg' 27 rfl (G' 2 rfl (AG.c rfl rfl (fun _=>trivial) (fun _=>Pn hx2) (G' 2 rfl (a1' rfl (AG.c rfl rfl (fun hg=>⟨hg,trivial⟩) (fun hw=>Jz (G1 hw hx3)) (a1' rfl (a1' rfl (a0' rfl (a1' rfl (AG.c rfl rfl (fun hg=>⟨hg,trivial⟩) (fun hw=>Rf (G1 hw hx4)) (a1' rfl ?_)))))))))))))
   refine pO' rfl (pa' rfl (G' 2 rfl (a1' rfl (AG.c rfl rfl (fun hg=>⟨hg,trivial⟩) (fun hw=>Pn (G1 hw hx5)) (a1' rfl (a1' rfl (a0' rfl (a1' rfl (AG.c rfl rfl (fun hg=>⟨hg,trivial⟩) (fun hw=>Oj (G1 hw hx6)) (a1' rfl (pA' rfl (po' rfl (an' ?_)))))))))))))
   refine n' (ci' rfl hh (fun hh=>?_) (fun hh=>?_))
   ·cases hh
    exact t' rfl (re' (rt' rfl rfl rfl))
   obtain ⟨x7,hx7,hh⟩:=bs' hh
   obtain ⟨x8,hx8,hh⟩:=bs' hh
   obtain ⟨x9,hx9,hh⟩:=bs' hh
   obtain ⟨x10,hx10,hh⟩:=bs' hh
   refine sk' (S' (sg' 21 rfl (G' 2 rfl (AG.c rfl rfl (fun _=>trivial) (fun _=>Qn hx7) (G' 2 rfl (a1' rfl (AG.c rfl rfl (fun hg=>⟨hg,trivial⟩) (fun hw=>Rf (G1 hw hx8)) (a1' rfl (pa' rfl (G' 2 rfl (a1' rfl (AG.c rfl rfl (fun hg=>⟨hg,trivial⟩) (fun hw=>Qn (G1 hw hx9)) (a1' rfl ?_)))))))))))))
   refine a1' rfl (a0' rfl (a1' rfl (AG.c rfl rfl (fun hg=>⟨hg,trivial⟩) (fun hw=>Oj (G1 hw hx10)) (a1' rfl (pA' rfl (po' rfl (an' (n' (ci' rfl hh (fun hh=>?_) (fun hh=>?_))))))))))
   ·cases hh
    exact t' rfl (re' (rt' rfl rfl rfl))
   obtain ⟨x11,hx11,hh⟩:=bs' hh
   obtain ⟨x12,hx12,hh⟩:=bs' hh
   refine sk' (S' (sg' 57 rfl (G' 2 rfl (AG.c rfl rfl (fun _=>trivial) (fun _=>Gx hx11) (G' 3 rfl (a1' rfl (a1' rfl (pa' rfl (G' 2 rfl (a1' rfl (a1' rfl (a1' rfl (a0' rfl ?_)))))))))))))
   refine a1' rfl (AG.qe hC rfl (fun hg=>⟨⟨hg,trivial⟩,trivial⟩) (D0.lenA _) (a1' rfl (pA' rfl (po' rfl (G' 2 rfl (a1' rfl (AG.c rfl rfl (fun hg=>⟨hg,trivial⟩) (fun hw=>K1l (G1 hw hx12)) (a1' rfl (a1' rfl (a0' rfl (a1' rfl (a1' rfl (pA' rfl ?_)))))))))))))
   refine po' rfl (G' 2 rfl (a1' rfl (a1' rfl (a1' rfl (a0' rfl (a1' rfl (a1' rfl (a1' rfl (a0' rfl (a1' rfl (a1' rfl (pO' rfl (pA' rfl ?_)))))))))))))
   refine po' rfl (G' 2 rfl (a1' rfl (a1' rfl (a1' rfl (a0' rfl (a1' rfl (AG.qe hC rfl (fun hg=>⟨⟨hg,trivial⟩,trivial⟩) (ei64.lenA _) (a1' rfl (pA' rfl (po' rfl (an' (n' (ci' rfl hh (fun hh=>?_) (fun hh=>?_))))))))))))))
   ·cases hh
    exact t' rfl (re' (rt' rfl rfl rfl))
   obtain ⟨x13,hx13,hh⟩:=bs' hh
   refine sk' (S' (sg' 21 rfl (G' 2 rfl (AG.c rfl rfl (fun _=>trivial) (fun _=>U1d hx13) (G' 3 rfl (a1' rfl (AG.qe hC rfl (fun hg=>⟨⟨hg,trivial⟩,trivial⟩) (C0.lenA _) (a1' rfl (pa' rfl (G' 2 rfl (a1' rfl (a1' rfl (a1' rfl ?_)))))))))))))
   refine a0' rfl (a1' rfl (AG.qe hC rfl (fun hg=>⟨⟨hg,trivial⟩,trivial⟩) (C0.lenA _) (a1' rfl (pA' rfl (po' rfl (an' (n' (ci' rfl hh (fun hh=>?_) (fun hh=>?_)))))))))
   ·cases hh
    exact t' rfl (re' (rt' rfl rfl rfl))
   exact sk' (S' (t' rfl (bk' (fw' (ih2 _ _ _ _ _ hh) rfl rfl rfl))))
  cases hh
  exact ex' (t' rfl (re' (rt' rfl rfl rfl)))
 ·intro g0 g1 g2 ih0 ih1 ih2 l x1 i1 k res hh
  refine W0.unroll (S' (p' 3 rfl (qe' rfl trivial (D0.lenA _) (e' rfl (ci' rfl hh (fun hh=>?_) (fun hh=>?_))))))
  ·obtain ⟨x14,hx14,hh⟩:=bs' hh
   obtain ⟨x15,hx15,hh⟩:=bs' hh
   refine sk' (S' (bk' (p' 3 rfl (i' rfl (U0 hx14) (D0.idx hx14) rfl (q' rfl (c' (Rf hx15) rfl rfl (e' rfl (ci' rfl hh (fun hh=>?_) (fun hh=>?_)))))))))
   ·cases hh
    exact t' rfl (re' (rt' rfl rfl rfl))
   exact sk' (T' rfl (lw' (ih2 _ _ _ _ _ hh) rfl rfl rfl))
  obtain ⟨x16,hx16,hh⟩:=bs' hh
  obtain ⟨x17,hx17,hh⟩:=bs' hh
  refine ex' (sg' 10 rfl (G' 2 rfl (AG.c rfl rfl (fun _=>trivial) (fun _=>ih0 _ _ hx16) (G' 3 rfl (a1' rfl (AG.c rfl rfl (fun hg=>⟨hg,trivial⟩) (fun hw=>ih0 _ _ (G1 hw hx17)) (a1' rfl (po' rfl (an' (n' (ci' rfl hh (fun hh=>?_) (fun hh=>?_))))))))))))
  ·cases hh
   exact t' rfl (re' (rt' rfl rfl rfl))
  exact sk' (T' rfl (lw' (ih1 _ _ _ hh) rfl rfl rfl))
theorem Rv {l res}(hh:T7 l=some res):Hx l res:=(W18).1 _ _ hh
mutual
def X9 (l:List B0):Option Bool:=
 Eb l 0
 partial_fixpoint
def Eb (l:List B0)(i:Int):Option Bool:=
 if (decide (i < ((l).length:Int)))=true then
  idx l i>>=fun x1=>
  Fk x1.Kind>>=fun x2=>
  (if (!(!x2))=true then F9 x1.TypeV else some default)>>=fun x3=>
  if (bif (!x2) then true else (!x3))=true then
   some false
  else
   Xe x1.Kind>>=fun x4=>
   (if x4=true then K4 x1.Value else some default)>>=fun x5=>
   (if (!(bif x4 then (!x5) else false))=true then Xe x1.Kind else some default)>>=fun x6=>
   (if ((!(bif x4 then (!x5) else false))&&(!x6))=true then Ab x1.Value else some default)>>=fun x7=>
   if (bif (bif (bif x4 then (!x5) else false) then true else (bif (!x6) then (!x7) else false)) then true else (bif (x1.Kind != 4) then (x1.Init != 0) else false))=true then
    some false
   else
    if (bif (x1.Kind != 6) then (bif (bif (((x1.Params).length:Int) != 0) then true else (((x1.Vars).length:Int) != 0)) then true else (((x1.Body).length:Int) != 0)) else false)=true then
     some false
    else
     J6 l x1 i 0
 else
  some true
 partial_fixpoint
def J6 (l:List B0)(x1:B0)(i1:Int)(k:Int):Option Bool:=
 if (decide (k < ((x1.Params).length:Int)))=true then
  idx x1.Params k>>=fun x8=>
  (if (!(x8.Kind != 4))=true then idx x1.Params k else some default)>>=fun x9=>
  if (bif (x8.Kind != 4) then true else (x9.Init != 0))=true then
   some false
  else
   J6 l x1 i1 (IntKind.i64.wrap (k+1))
 else
  K6 l x1 i1 0
 partial_fixpoint
def K6 (l:List B0)(x1:B0)(i2:Int)(k1:Int):Option Bool:=
 if (decide (k1 < ((x1.Vars).length:Int)))=true then
  idx x1.Vars k1>>=fun x10=>
  if (x10.Kind != 4)=true then
   some false
  else
   K6 l x1 i2 (IntKind.i64.wrap (k1+1))
 else
  X9 x1.Params>>=fun x11=>
  (if (!(!x11))=true then X9 x1.Vars else some default)>>=fun x12=>
  (if (!(bif (!x11) then true else (!x12)))=true then T7 x1.Body else some default)>>=fun x13=>
  if (bif (bif (!x11) then true else (!x12)) then true else (!x13))=true then
   some false
  else
   Eb l (IntKind.i64.wrap (i2+1))
 partial_fixpoint
end
abbrev Ix (l:List B0)(res:Bool):Prop:=K0 C 66 [.d (.sl (B0.rows l))] [] (Ret [] (.d (.bool res)))
abbrev X15 (l:List B0)(i:Int)(res:Bool):Prop:=LM C 132 0 Tryz.f66 [1,0,1,4] [(0,.d (.sl (B0.rows l))),(3,.d (.int .i64 i))] [] (Ret [] (.d (.bool res)))
abbrev Y15 (l:List B0)(x1:B0)(i1:Int)(k:Int)(res:Bool):Prop:=LM C 132 0 Tryz.f66 [1,0,1,4,5,1,0,4,1,1,1,1,0,1,4] [(0,.d (.sl (B0.rows l))),(3,.d (.int .i64 i1)),(4,.ref 0 0),(5,.d (.int .i64 k))] [.row (B0.cells x1) 59] (Ret [] (.d (.bool res)))
abbrev Z15 (l:List B0)(x1:B0)(i2:Int)(k1:Int)(res:Bool):Prop:=LM C 132 0 Tryz.f66 [1,0,1,4,5,1,0,4,1,1,1,1,1,0,1,4] [(0,.d (.sl (B0.rows l))),(3,.d (.int .i64 i2)),(4,.ref 0 0),(6,.d (.int .i64 k1))] [.row (B0.cells x1) 59] (Ret [] (.d (.bool res)))
theorem X18:(∀ l res,X9 l=some res→Ix l res)∧(∀ l i res,Eb l i=some res→X15 l i res)∧(∀ l x1 i1 k res,J6 l x1 i1 k=some res→Y15 l x1 i1 k res)∧(∀ l x1 i2 k1 res,K6 l x1 i2 k1=some res→Z15 l x1 i2 k1 res):=by
 refine X9.mutual_partial_correctness _ _ _ _ ?_ ?_ ?_ ?_
 ·intro g1 ih1 l res hh
  exact K0.intro hC Tryz.func66 rfl rfl rfl (t' rfl (S' (t' rfl (bk' (fw' (ih1 _ _ _ hh) rfl rfl rfl)))))
 ·intro g2 ih2 l i res hh
  refine W0.unroll (S' (p' 2 rfl (qe' rfl trivial (B0.lenA _) (e' rfl (ci' rfl hh (fun hh=>?_) (fun hh=>?_))))))
  ·obtain ⟨x1,hx1,hh⟩:=bs' hh
   obtain ⟨x2,hx2,hh⟩:=bs' hh
   obtain ⟨x3,hx3,hh⟩:=bs' hh
   refine sk' (S' (bk' (p' 2 rfl (i' rfl (U0 hx1) (B0.idx hx1) rfl (q' rfl (E0.nf hC rfl (E0.s hC rfl (n' (S' (sg' 10 rfl (G' 2 rfl (AG.c rfl rfl (fun _=>trivial) (fun _=>Tw hx2) (G' 3 rfl ?_)))))))))))))
   refine a1' rfl (AG.c rfl rfl (fun hg=>⟨hg,trivial⟩) (fun hw=>Dx (G1 hw hx3)) (a1' rfl (po' rfl (an' (n' (ci' rfl hh (fun hh=>?_) (fun hh=>?_)))))))
   ·cases hh
    exact t' rfl (re' (rt' rfl rfl rfl))
   obtain ⟨x4,hx4,hh⟩:=bs' hh
   obtain ⟨x5,hx5,hh⟩:=bs' hh
   obtain ⟨x6,hx6,hh⟩:=bs' hh
   obtain ⟨x7,hx7,hh⟩:=bs' hh
   refine sk' (S' (sg' 31 rfl (G' 2 rfl (AG.c rfl rfl (fun _=>trivial) (fun _=>On hx4) (G' 2 rfl (a1' rfl (AG.c rfl rfl (fun hg=>⟨hg,trivial⟩) (fun hw=>Rf (G1 hw hx5)) (a1' rfl (pa' rfl (G' 2 rfl (a1' rfl (AG.c rfl rfl (fun hg=>⟨hg,trivial⟩) (fun hw=>On (G1 hw hx6)) (a1' rfl ?_)))))))))))))
   refine a1' rfl (a0' rfl (a1' rfl (AG.c rfl rfl (fun hg=>⟨hg,trivial⟩) (fun hw=>Oj (G1 hw hx7)) (a1' rfl (pA' rfl (po' rfl (G' 2 rfl (a1' rfl (a1' rfl (a1' rfl (a0' rfl (a1' rfl (a1' rfl ?_)))))))))))))
   refine pA' rfl (po' rfl (an' (n' (ci' rfl hh (fun hh=>?_) (fun hh=>?_)))))
   ·cases hh
    exact t' rfl (re' (rt' rfl rfl rfl))
   refine sk' (S' (sg' 21 rfl (G' 5 rfl (a1' rfl (AG.qe hC rfl (fun hg=>⟨⟨hg,trivial⟩,trivial⟩) (B0.lenA _) (a1' rfl (a1' rfl (a0' rfl (a1' rfl (AG.qe hC rfl (fun hg=>⟨⟨hg,trivial⟩,trivial⟩) (B0.lenA _) (a1' rfl (pO' rfl (a1' rfl ?_)))))))))))))
   refine a0' rfl (a1' rfl (AG.qe hC rfl (fun hg=>⟨⟨hg,trivial⟩,trivial⟩) (C0.lenA _) (a1' rfl (pO' rfl (pa' rfl (an' (n' (ci' rfl hh (fun hh=>?_) (fun hh=>?_)))))))))
   ·cases hh
    exact t' rfl (re' (rt' rfl rfl rfl))
   exact sk' (S' (t' rfl (bk' (fw' (ih2 _ _ _ _ _ hh) rfl rfl rfl))))
  cases hh
  exact ex' (t' rfl (re' (rt' rfl rfl rfl)))
 ·intro g2 g3 ih2 ih3 l x1 i1 k res hh
  refine W0.unroll (S' (p' 3 rfl (qe' rfl trivial (B0.lenA _) (e' rfl (ci' rfl hh (fun hh=>?_) (fun hh=>?_))))))
  ·obtain ⟨x8,hx8,hh⟩:=bs' hh
   obtain ⟨x9,hx9,hh⟩:=bs' hh
   refine sk' (S' (bk' (sg' 16 rfl (G' 3 rfl (AG.i hC rfl rfl (fun _=>trivial) (fun hw=>⟨U0 hx8,B0.idx hx8,rfl⟩) (G' 5 rfl (a1' rfl (a0' rfl (AG.i hC rfl rfl (fun hg=>⟨hg,hg,trivial⟩) (fun hw=>⟨U0 (G1 hw hx9),B0.idx (G1 hw hx9),rfl⟩) (a1' rfl (a1' rfl (a1' rfl (po' rfl ?_)))))))))))))
   refine an' (n' (ci' rfl hh (fun hh=>?_) (fun hh=>?_)))
   ·cases hh
    exact t' rfl (re' (rt' rfl rfl rfl))
   exact sk' (T' rfl (lw' (ih2 _ _ _ _ _ hh) rfl rfl rfl))
  exact ex' (S' (t' rfl (bk' (fw' (ih3 _ _ _ _ _ hh) rfl rfl rfl))))
 ·intro g0 g1 g3 ih0 ih1 ih3 l x1 i2 k1 res hh
  refine W0.unroll (S' (p' 3 rfl (qe' rfl trivial (B0.lenA _) (e' rfl (ci' rfl hh (fun hh=>?_) (fun hh=>?_))))))
  ·obtain ⟨x10,hx10,hh⟩:=bs' hh
   refine sk' (S' (bk' (p' 3 rfl (i' rfl (U0 hx10) (B0.idx hx10) rfl (e' rfl (ci' rfl hh (fun hh=>?_) (fun hh=>?_)))))))
   ·cases hh
    exact t' rfl (re' (rt' rfl rfl rfl))
   exact sk' (T' rfl (lw' (ih3 _ _ _ _ _ hh) rfl rfl rfl))
  obtain ⟨x11,hx11,hh⟩:=bs' hh
  obtain ⟨x12,hx12,hh⟩:=bs' hh
  obtain ⟨x13,hx13,hh⟩:=bs' hh
  refine ex' (sg' 16 rfl (G' 2 rfl (AG.c rfl rfl (fun _=>trivial) (fun _=>ih0 _ _ hx11) (G' 3 rfl (a1' rfl (AG.c rfl rfl (fun hg=>⟨hg,trivial⟩) (fun hw=>ih0 _ _ (G1 hw hx12)) (a1' rfl (po' rfl (G' 2 rfl (a1' rfl (AG.c rfl rfl (fun hg=>⟨hg,trivial⟩) (fun hw=>Rv (G1 hw hx13)) (a1' rfl (po' rfl ?_)))))))))))))
  refine an' (n' (ci' rfl hh (fun hh=>?_) (fun hh=>?_)))
  ·cases hh
   exact t' rfl (re' (rt' rfl rfl rfl))
  exact sk' (T' rfl (lw' (ih1 _ _ _ hh) rfl rfl rfl))
theorem Y1a {l res}(hh:X9 l=some res):Ix l res:=(X18).1 _ _ hh
def Ik (c:Int):Option Bool:=
 some (bif (decide (c≥97)) then (decide (c≤122)) else false)
theorem Bs {c res}(hh:Ik c=some res):K0 C 170 [.d (.int .u8 c)] [] (Ret [] (.d (.bool res))):=by
 unfold Ik at hh
 cases hh
 exact K0.intro hC Tryz.func170 rfl rfl rfl (t' rfl (sg' 7 rfl (G' 4 rfl (a1' rfl (pa' rfl (a0' rfl (an' (n' (re' (rt' rfl rfl rfl))))))))))
def K7 (s:Str)(i1:Int):Option Bool:=
 if (decide ((IntKind.i64.wrap ((IntKind.i64.wrap (i1+((s).length:Int)))+2))≤162))=true then
  slc [32,116,121,112,101,32,115,101,99,114,101,116,32,112,117,98,108,105,99,32,114,97,110,100,111,109,32,118,97,114,32,104,97,116,99,104,32,102,117,110,99,32,114,101,116,117,114,110,32,98,101,103,105,110,32,101,110,100,32,98,111,111,108,32,105,110,116,32,97,114,114,97,121,32,111,102,32,114,101,99,111,114,100,32,116,114,117,101,32,102,97,108,115,101,32,99,97,108,108,32,114,101,108,101,97,115,101,32,111,117,116,112,117,116,32,119,97,105,116,32,105,102,32,101,108,115,101,32,119,104,105,108,101,32,108,105,109,105,116,32,102,111,114,32,116,111,32,115,101,116,116,108,101,32,109,105,110,32,109,97,120,32] i1 (IntKind.i64.wrap ((IntKind.i64.wrap (i1+((s).length:Int)))+2))>>=fun x3=>
  if (decide (1+s.length≤maxLen))=true then
   if (decide (([32]++s).length+1≤maxLen))=true then
    if (x3 == (([32]++s)++[32]))=true then
     some true
    else
     K7 s (IntKind.i64.wrap (i1+1))
   else none
  else none
 else
  some false
 partial_fixpoint
abbrev Lt (s:Str)(i1:Int)(res:Bool):Prop:=LM C 38 0 Tryz.f171 [1,1,1,0,1,4] [(0,.d (.str s)),(4,.d (.int .i64 i1))] [] (Ret [] (.d (.bool res)))
theorem V13 (s:Str):(∀ i1 res,K7 s i1=some res→Lt s i1 res):=by
 refine K7.partial_correctness s _ ?_
 ·intro g0 ih0 i1 res hh
  refine W0.unroll (S' (t' rfl (ci' rfl hh (fun hh=>?_) (fun hh=>?_))))
  ·obtain ⟨x3,hx3,hh⟩:=bs' hh
   obtain ⟨c13,hh⟩:=I1 hh
   obtain ⟨c14,hh⟩:=I1 hh
   refine sk' (S' (bk' (p' 6 rfl (E0.lx hC rfl hx3 (q' rfl (qc' rfl c13 (qc' rfl c14 (e' rfl (ci' rfl hh (fun hh=>?_) (fun hh=>?_))))))))))
   ·cases hh
    exact t' rfl (re' (rt' rfl rfl rfl))
   exact sk' (T' rfl (lw' (ih0 _ _ hh) rfl rfl rfl))
  cases hh
  exact ex' (t' rfl (re' (rt' rfl rfl rfl)))
theorem A16 {s i1 res}(hh:K7 s i1=some res):Lt s i1 res:=(V13 s) _ _ hh
def L7 (s:Str)(i:Int):Option Bool:=
 if (decide (i < ((s).length:Int)))=true then
  idx s i>>=fun x1=>
  Ik (x1.toNat:Int)>>=fun x2=>
  if (!x2)=true then
   some false
  else
   L7 s (IntKind.i64.wrap (i+1))
 else
  K7 s 0
 partial_fixpoint
abbrev Mt (s:Str)(i:Int)(res:Bool):Prop:=LM C 38 0 Tryz.f171 [1,1,0,1,4] [(0,.d (.str s)),(3,.d (.int .i64 i))] [] (Ret [] (.d (.bool res)))
theorem W13 (s:Str):(∀ i res,L7 s i=some res→Mt s i res):=by
 refine L7.partial_correctness s _ ?_
 ·intro g0 ih0 i res hh
  refine W0.unroll (S' (t' rfl (ci' rfl hh (fun hh=>?_) (fun hh=>?_))))
  ·obtain ⟨x1,hx1,hh⟩:=bs' hh
   obtain ⟨x2,hx2,hh⟩:=bs' hh
   refine sk' (S' (bk' (p' 2 rfl (x' rfl (U0 hx1) (Di hx1) (c' (Bs hx2) rfl rfl (e' rfl (ci' rfl hh (fun hh=>?_) (fun hh=>?_))))))))
   ·cases hh
    exact t' rfl (re' (rt' rfl rfl rfl))
   exact sk' (T' rfl (lw' (ih0 _ _ hh) rfl rfl rfl))
  exact ex' (S' (t' rfl (bk' (fw' (A16 hh) rfl rfl rfl))))
theorem B16 {s i res}(hh:L7 s i=some res):Mt s i res:=(W13 s) _ _ hh
def Jk (s:Str):Option Bool:=
 if (((s).length:Int) == 0)=true then
  some false
 else
  L7 s 0
theorem V1d {s res}(hh:Jk s=some res):K0 C 171 [.d (.str s)] [] (Ret [] (.d (.bool res))):=by
 unfold Jk at hh
 refine K0.intro hC Tryz.func171 rfl rfl rfl (t' rfl (S' (t' rfl (ci' rfl hh (fun hh=>?_) (fun hh=>?_)))))
 ·cases hh
  exact t' rfl (re' (rt' rfl rfl rfl))
 exact sk' (S' (t' rfl (bk' (fw' (B16 hh) rfl rfl rfl))))
def Vu (c:Int):Option Bool:=
 some (bif (decide (c≥48)) then (decide (c≤57)) else false)
theorem L1l {c res}(hh:Vu c=some res):K0 C 206 [.d (.int .u8 c)] [] (Ret [] (.d (.bool res))):=by
 unfold Vu at hh
 cases hh
 exact K0.intro hC Tryz.func206 rfl rfl rfl (t' rfl (sg' 7 rfl (G' 4 rfl (a1' rfl (pa' rfl (a0' rfl (an' (n' (re' (rt' rfl rfl rfl))))))))))
def Oe (s:Str)(atV1:Int):Option Int:=
 (if (decide (atV1 < ((s).length:Int)))=true then idx s atV1 else some default)>>=fun x1=>
 (if (decide (atV1 < ((s).length:Int)))=true then Ik (x1.toNat:Int) else some default)>>=fun x2=>
 (if ((decide (atV1 < ((s).length:Int)))&&(!x2))=true then idx s atV1 else some default)>>=fun x3=>
 (if ((decide (atV1 < ((s).length:Int)))&&(!x2))=true then Vu (x3.toNat:Int) else some default)>>=fun x4=>
 if (bif (decide (atV1 < ((s).length:Int))) then (bif x2 then true else x4) else false)=true then
  Oe s (IntKind.i64.wrap (atV1+1))
 else
  some atV1
 partial_fixpoint
abbrev X13 (s:Str)(atV1:Int)(res:Int):Prop:=LM C 24 0 Tryz.f172 [1,0,4] [(0,.d (.str s)),(1,.d (.int .i64 atV1))] [] (Ret [] (.d (.int .i64 res)))
theorem Y1f (s:Str):(∀ atV1 res,Oe s atV1=some res→X13 s atV1 res):=by
 refine Oe.partial_correctness s _ ?_
 ·intro g0 ih0 atV1 res hh
  obtain ⟨x1,hx1,hh⟩:=bs' hh
  obtain ⟨x2,hx2,hh⟩:=bs' hh
  obtain ⟨x3,hx3,hh⟩:=bs' hh
  obtain ⟨x4,hx4,hh⟩:=bs' hh
  refine W0.unroll (S' (sg' 16 rfl (G' 7 rfl (AG.x hC rfl rfl (fun hg=>⟨hg,hg,trivial⟩) (fun hw=>⟨U0 (G1 hw hx1),Di (G1 hw hx1)⟩) (AG.c rfl rfl (fun hg=>⟨hg,trivial⟩) (fun hw=>Bs (G1 hw hx2)) (a1' rfl (G' 2 rfl (AG.x hC rfl rfl (fun hg=>⟨hg,hg,trivial⟩) (fun hw=>⟨U0 (G1 hw hx3),Di (G1 hw hx3)⟩) ?_))))))))
  refine AG.c rfl rfl (fun hg=>⟨hg,trivial⟩) (fun hw=>L1l (G1 hw hx4)) (pO' rfl (pa' rfl (an' (n' (ci' rfl hh (fun hh=>?_) (fun hh=>?_))))))
  ·exact sk' (bk' (T' rfl (lw' (ih0 _ _ hh) rfl rfl rfl)))
  cases hh
  exact ex' (t' rfl (re' (rt' rfl rfl rfl)))
theorem B1j {s atV1 res}(hh:Oe s atV1=some res):X13 s atV1 res:=(Y1f s) _ _ hh
def Sv (s:Str)(atV:Int):Option Int:=
 Oe s atV
theorem C1q {s atV res}(hh:Sv s atV=some res):K0 C 172 [.d (.str s),.d (.int .i64 atV)] [] (Ret [] (.d (.int .i64 res))):=by
 unfold Sv at hh
 exact K0.intro hC Tryz.func172 rfl rfl rfl (t' rfl (S' (bk' (fw' (B1j hh) rfl rfl rfl))))
def Cs (s:Str):Option Bool:=
 (if (!(bif (decide (((s).length:Int) < 1)) then true else (decide (((s).length:Int) > 12))))=true then idx s 0 else some default)>>=fun x1=>
 (if (!(bif (decide (((s).length:Int) < 1)) then true else (decide (((s).length:Int) > 12))))=true then Ik (x1.toNat:Int) else some default)>>=fun x2=>
 (if (!(bif (bif (decide (((s).length:Int) < 1)) then true else (decide (((s).length:Int) > 12))) then true else (!x2)))=true then Jk s else some default)>>=fun x3=>
 if (bif (bif (bif (decide (((s).length:Int) < 1)) then true else (decide (((s).length:Int) > 12))) then true else (!x2)) then true else x3)=true then
  some false
 else
  Sv s 0>>=fun x4=>
  some (x4 == ((s).length:Int))
theorem C1j {s res}(hh:Cs s=some res):K0 C 102 [.d (.str s)] [] (Ret [] (.d (.bool res))):=by
 unfold Cs at hh
 obtain ⟨x1,hx1,hh⟩:=bs' hh
 obtain ⟨x2,hx2,hh⟩:=bs' hh
 obtain ⟨x3,hx3,hh⟩:=bs' hh
 refine K0.intro hC Tryz.func102 rfl rfl rfl (t' rfl (S' (sg' 18 rfl (G' 5 rfl (a1' rfl (a1' rfl (po' rfl (G' 2 rfl (AG.x hC rfl rfl (fun hg=>⟨hg,trivial⟩) (fun hw=>⟨U0 (G1 hw hx1),Di (G1 hw hx1)⟩) (AG.c rfl rfl (fun hg=>⟨hg,trivial⟩) (fun hw=>Bs (G1 hw hx2)) (a1' rfl (po' rfl (G' 2 rfl ?_)))))))))))))
 refine AG.c rfl rfl (fun hg=>⟨hg,trivial⟩) (fun hw=>V1d (G1 hw hx3)) (po' rfl (an' (n' (ci' rfl hh (fun hh=>?_) (fun hh=>?_)))))
 ·cases hh
  exact t' rfl (re' (rt' rfl rfl rfl))
 obtain ⟨x4,hx4,hh⟩:=bs' hh
 cases hh
 exact sk' (p' 1 rfl (c' (C1q hx4) rfl rfl (e' rfl (re' (rt' rfl rfl rfl)))))
def Ia (s:Str):Option Bool:=
 Cs s>>=fun x1=>
 some x1
theorem Af {s res}(hh:Ia s=some res):K0 C 48 [.d (.str s)] [] (Ret [] (.d (.bool res))):=by
 unfold Ia at hh
 obtain ⟨x1,hx1,hh⟩:=bs' hh
 cases hh
 exact K0.intro hC Tryz.func48 rfl rfl rfl (t' rfl (p' 1 rfl (c' (C1j hx1) rfl rfl (e' rfl (re' (rt' rfl rfl rfl))))))
mutual
def U7 (t:A0):Option Bool:=
 (if (t.Kind == 4)=true then Ia t.Name else some default)>>=fun x1=>
 if (bif (t.Kind == 4) then (!x1) else false)=true then
  some false
 else
  Fb t 0
 partial_fixpoint
def Fb (t:A0)(i:Int):Option Bool:=
 if (decide (i < ((t.Names).length:Int)))=true then
  idx t.Names i>>=fun x2=>
  Ia x2>>=fun x3=>
  if (!x3)=true then
   some false
  else
   Fb t (IntKind.i64.wrap (i+1))
 else
  Q8 t 0
 partial_fixpoint
def Q8 (t:A0)(i1:Int):Option Bool:=
 if (decide (i1 < ((t.Of).length:Int)))=true then
  idx t.Of i1>>=fun x4=>
  U7 x4>>=fun x5=>
  if (!x5)=true then
   some false
  else
   Q8 t (IntKind.i64.wrap (i1+1))
 else
  some true
 partial_fixpoint
end
abbrev Jx (t:A0)(res:Bool):Prop:=K0 C 133 [.agg (A0.cells t)] [] (Ret [] (.d (.bool res)))
abbrev C16 (t:A0)(i:Int)(res:Bool):Prop:=LM C 42 0 Tryz.f133 [1,1,0,1,4] [(1,.ref 0 0),(3,.d (.int .i64 i))] [.row (A0.cells t) 40] (Ret [] (.d (.bool res)))
abbrev D16 (t:A0)(i1:Int)(res:Bool):Prop:=LM C 42 0 Tryz.f133 [1,1,1,0,1,4] [(1,.ref 0 0),(4,.d (.int .i64 i1))] [.row (A0.cells t) 40] (Ret [] (.d (.bool res)))
theorem Y18:(∀ t res,U7 t=some res→Jx t res)∧(∀ t i res,Fb t i=some res→C16 t i res)∧(∀ t i1 res,Q8 t i1=some res→D16 t i1 res):=by
 refine U7.mutual_partial_correctness _ _ _ ?_ ?_ ?_
 ·intro g1 ih1 t res hh
  obtain ⟨x1,hx1,hh⟩:=bs' hh
  refine K0.intro hC Tryz.func133 rfl rfl rfl (s' rfl rfl (E0.n hC rfl (e' rfl (S' (sg' 9 rfl (G' 5 rfl (a1' rfl (AG.c rfl rfl (fun hg=>⟨hg,trivial⟩) (fun hw=>Af (G1 hw hx1)) (a1' rfl (pa' rfl (an' (n' (ci' rfl hh (fun hh=>?_) (fun hh=>?_))))))))))))))
  ·cases hh
   exact t' rfl (re' (rt' rfl rfl rfl))
  exact sk' (S' (t' rfl (bk' (fw' (ih1 _ _ _ hh) rfl rfl rfl))))
 ·intro g1 g2 ih1 ih2 t i res hh
  refine W0.unroll (S' (p' 3 rfl (qe' rfl trivial (estr.lenA _) (e' rfl (ci' rfl hh (fun hh=>?_) (fun hh=>?_))))))
  ·obtain ⟨x2,hx2,hh⟩:=bs' hh
   obtain ⟨x3,hx3,hh⟩:=bs' hh
   refine sk' (S' (bk' (p' 3 rfl (i' rfl (U0 hx2) (estr.idx hx2) rfl (q' rfl (c' (Af hx3) rfl rfl (e' rfl (ci' rfl hh (fun hh=>?_) (fun hh=>?_)))))))))
   ·cases hh
    exact t' rfl (re' (rt' rfl rfl rfl))
   exact sk' (T' rfl (lw' (ih1 _ _ _ hh) rfl rfl rfl))
  exact ex' (S' (t' rfl (bk' (fw' (ih2 _ _ _ hh) rfl rfl rfl))))
 ·intro g0 g2 ih0 ih2 t i1 res hh
  refine W0.unroll (S' (p' 3 rfl (qe' rfl trivial (A0.lenA _) (e' rfl (ci' rfl hh (fun hh=>?_) (fun hh=>?_))))))
  ·obtain ⟨x4,hx4,hh⟩:=bs' hh
   obtain ⟨x5,hx5,hh⟩:=bs' hh
   refine sk' (S' (bk' (p' 3 rfl (i' rfl (U0 hx4) (A0.idx hx4) rfl (q' rfl (c' (ih0 _ _ hx5) rfl rfl (e' rfl (ci' rfl hh (fun hh=>?_) (fun hh=>?_)))))))))
   ·cases hh
    exact t' rfl (re' (rt' rfl rfl rfl))
   exact sk' (T' rfl (lw' (ih2 _ _ _ hh) rfl rfl rfl))
  cases hh
  exact ex' (t' rfl (re' (rt' rfl rfl rfl)))
theorem Tv {t res}(hh:U7 t=some res):Jx t res:=(Y18).1 _ _ hh
mutual
def X3 (e:D0):Option Bool:=
 (if (bif (e.Op == 3) then true else (e.Op == 4))=true then Ia e.Name else some default)>>=fun x1=>
 if (bif (bif (e.Op == 3) then true else (e.Op == 4)) then (!x1) else false)=true then
  some false
 else
  Gb e 0
 partial_fixpoint
def Gb (e:D0)(i:Int):Option Bool:=
 if (decide (i < ((e.Kids).length:Int)))=true then
  idx e.Kids i>>=fun x2=>
  X3 x2>>=fun x3=>
  if (!x3)=true then
   some false
  else
   Gb e (IntKind.i64.wrap (i+1))
 else
  some true
 partial_fixpoint
end
abbrev Kx (e:D0)(res:Bool):Prop:=K0 C 92 [.agg (D0.cells e)] [] (Ret [] (.d (.bool res)))
abbrev E16 (e:D0)(i:Int)(res:Bool):Prop:=LM C 32 0 Tryz.f92 [1,1,0,1,4] [(1,.ref 0 0),(3,.d (.int .i64 i))] [.row (D0.cells e) 34] (Ret [] (.d (.bool res)))
theorem Z18:(∀ e res,X3 e=some res→Kx e res)∧(∀ e i res,Gb e i=some res→E16 e i res):=by
 refine X3.mutual_partial_correctness _ _ ?_ ?_
 ·intro g1 ih1 e res hh
  obtain ⟨x1,hx1,hh⟩:=bs' hh
  refine K0.intro hC Tryz.func92 rfl rfl rfl (s' rfl rfl (E0.n hC rfl (e' rfl (S' (sg' 14 rfl (G' 5 rfl (a1' rfl (a1' rfl (po' rfl (G' 2 rfl (a1' rfl (AG.c rfl rfl (fun hg=>⟨hg,trivial⟩) (fun hw=>Af (G1 hw hx1)) (a1' rfl ?_)))))))))))))
  refine pa' rfl (an' (n' (ci' rfl hh (fun hh=>?_) (fun hh=>?_))))
  ·cases hh
   exact t' rfl (re' (rt' rfl rfl rfl))
  exact sk' (S' (t' rfl (bk' (fw' (ih1 _ _ _ hh) rfl rfl rfl))))
 ·intro g0 g1 ih0 ih1 e i res hh
  refine W0.unroll (S' (p' 3 rfl (qe' rfl trivial (D0.lenA _) (e' rfl (ci' rfl hh (fun hh=>?_) (fun hh=>?_))))))
  ·obtain ⟨x2,hx2,hh⟩:=bs' hh
   obtain ⟨x3,hx3,hh⟩:=bs' hh
   refine sk' (S' (bk' (p' 3 rfl (i' rfl (U0 hx2) (D0.idx hx2) rfl (q' rfl (c' (ih0 _ _ hx3) rfl rfl (e' rfl (ci' rfl hh (fun hh=>?_) (fun hh=>?_)))))))))
   ·cases hh
    exact t' rfl (re' (rt' rfl rfl rfl))
   exact sk' (T' rfl (lw' (ih1 _ _ _ hh) rfl rfl rfl))
  cases hh
  exact ex' (t' rfl (re' (rt' rfl rfl rfl)))
theorem Pe {e res}(hh:X3 e=some res):Kx e res:=(Z18).1 _ _ hh
mutual
def U6 (l:List C0):Option Bool:=
 Ba l 0
 partial_fixpoint
def Ba (l:List C0)(i:Int):Option Bool:=
 if (decide (i < ((l).length:Int)))=true then
  idx l i>>=fun x1=>
  Hk x1.Verb>>=fun x2=>
  (if x2=true then Ia x1.Name else some default)>>=fun x3=>
  (if (!(bif x2 then (!x3) else false))=true then X3 x1.Place else some default)>>=fun x4=>
  (if (!(bif (bif x2 then (!x3) else false) then true else (!x4)))=true then X3 x1.Value else some default)>>=fun x5=>
  (if (!(bif (bif (bif x2 then (!x3) else false) then true else (!x4)) then true else (!x5)))=true then U6 x1.Then else some default)>>=fun x6=>
  (if (!(bif (bif (bif (bif x2 then (!x3) else false) then true else (!x4)) then true else (!x5)) then true else (!x6)))=true then U6 x1.Else else some default)>>=fun x7=>
  if (bif (bif (bif (bif (bif x2 then (!x3) else false) then true else (!x4)) then true else (!x5)) then true else (!x6)) then true else (!x7))=true then
   some false
  else
   Md l x1 i 0
 else
  some true
 partial_fixpoint
def Md (l:List C0)(x1:C0)(i1:Int)(k:Int):Option Bool:=
 if (decide (k < ((x1.Args).length:Int)))=true then
  idx x1.Args k>>=fun x8=>
  X3 x8>>=fun x9=>
  if (!x9)=true then
   some false
  else
   Md l x1 i1 (IntKind.i64.wrap (k+1))
 else
  Ba l (IntKind.i64.wrap (i1+1))
 partial_fixpoint
end
abbrev Uv (l:List C0)(res:Bool):Prop:=K0 C 69 [.d (.sl (C0.rows l))] [] (Ret [] (.d (.bool res)))
abbrev Y13 (l:List C0)(i:Int)(res:Bool):Prop:=LM C 63 0 Tryz.f69 [1,0,1,4] [(0,.d (.sl (C0.rows l))),(3,.d (.int .i64 i))] [] (Ret [] (.d (.bool res)))
abbrev Z13 (l:List C0)(x1:C0)(i1:Int)(k:Int)(res:Bool):Prop:=LM C 63 0 Tryz.f69 [1,0,1,4,5,1,0,4,1,1,1,4] [(0,.d (.sl (C0.rows l))),(3,.d (.int .i64 i1)),(4,.ref 0 0),(5,.d (.int .i64 k))] [.row (C0.cells x1) 53] (Ret [] (.d (.bool res)))
theorem F16:(∀ l res,U6 l=some res→Uv l res)∧(∀ l i res,Ba l i=some res→Y13 l i res)∧(∀ l x1 i1 k res,Md l x1 i1 k=some res→Z13 l x1 i1 k res):=by
 refine U6.mutual_partial_correctness _ _ _ ?_ ?_ ?_
 ·intro g1 ih1 l res hh
  exact K0.intro hC Tryz.func69 rfl rfl rfl (t' rfl (S' (t' rfl (bk' (fw' (ih1 _ _ _ hh) rfl rfl rfl)))))
 ·intro g0 g2 ih0 ih2 l i res hh
  refine W0.unroll (S' (p' 2 rfl (qe' rfl trivial (C0.lenA _) (e' rfl (ci' rfl hh (fun hh=>?_) (fun hh=>?_))))))
  ·obtain ⟨x1,hx1,hh⟩:=bs' hh
   obtain ⟨x2,hx2,hh⟩:=bs' hh
   obtain ⟨x3,hx3,hh⟩:=bs' hh
   obtain ⟨x4,hx4,hh⟩:=bs' hh
   obtain ⟨x5,hx5,hh⟩:=bs' hh
   obtain ⟨x6,hx6,hh⟩:=bs' hh
   obtain ⟨x7,hx7,hh⟩:=bs' hh
   refine sk' (S' (bk' (p' 2 rfl (i' rfl (U0 hx1) (C0.idx hx1) rfl (q' rfl (E0.nf hC rfl (E0.s hC rfl (n' (S' (sg' 33 rfl (G' 2 rfl (AG.c rfl rfl (fun _=>trivial) (fun _=>Gx hx2) (G' 2 rfl ?_)))))))))))))
   refine a1' rfl (AG.c rfl rfl (fun hg=>⟨hg,trivial⟩) (fun hw=>Af (G1 hw hx3)) (a1' rfl (pa' rfl (G' 2 rfl (a1' rfl (AG.c rfl rfl (fun hg=>⟨hg,trivial⟩) (fun hw=>Pe (G1 hw hx4)) (a1' rfl (po' rfl (G' 2 rfl (a1' rfl (AG.c rfl rfl (fun hg=>⟨hg,trivial⟩) (fun hw=>Pe (G1 hw hx5)) (a1' rfl (po' rfl ?_)))))))))))))
   refine G' 2 rfl (a1' rfl (AG.c rfl rfl (fun hg=>⟨hg,trivial⟩) (fun hw=>ih0 _ _ (G1 hw hx6)) (a1' rfl (po' rfl (G' 2 rfl (a1' rfl (AG.c rfl rfl (fun hg=>⟨hg,trivial⟩) (fun hw=>ih0 _ _ (G1 hw hx7)) (a1' rfl (po' rfl (an' (n' (ci' rfl hh (fun hh=>?_) (fun hh=>?_)))))))))))))
   ·cases hh
    exact t' rfl (re' (rt' rfl rfl rfl))
   exact sk' (t' rfl (bk' (fw' (ih2 _ _ _ _ _ hh) rfl rfl rfl)))
  cases hh
  exact ex' (t' rfl (re' (rt' rfl rfl rfl)))
 ·intro g1 g2 ih1 ih2 l x1 i1 k res hh
  refine W0.unroll (S' (p' 3 rfl (qe' rfl trivial (D0.lenA _) (e' rfl (ci' rfl hh (fun hh=>?_) (fun hh=>?_))))))
  ·obtain ⟨x8,hx8,hh⟩:=bs' hh
   obtain ⟨x9,hx9,hh⟩:=bs' hh
   refine sk' (S' (bk' (p' 3 rfl (i' rfl (U0 hx8) (D0.idx hx8) rfl (q' rfl (c' (Pe hx9) rfl rfl (e' rfl (ci' rfl hh (fun hh=>?_) (fun hh=>?_)))))))))
   ·cases hh
    exact t' rfl (re' (rt' rfl rfl rfl))
   exact sk' (T' rfl (lw' (ih2 _ _ _ _ _ hh) rfl rfl rfl))
  exact ex' (T' rfl (lw' (ih1 _ _ _ hh) rfl rfl rfl))
theorem Nt {l res}(hh:U6 l=some res):Uv l res:=(F16).1 _ _ hh
mutual
def R8 (l:List B0):Option Bool:=
 Ca l 0
 partial_fixpoint
def Ca (l:List B0)(i:Int):Option Bool:=
 if (decide (i < ((l).length:Int)))=true then
  idx l i>>=fun x1=>
  Ia x1.Name>>=fun x2=>
  (if (!(!x2))=true then U7 x1.TypeV else some default)>>=fun x3=>
  (if (!(bif (!x2) then true else (!x3)))=true then X3 x1.Value else some default)>>=fun x4=>
  (if (!(bif (bif (!x2) then true else (!x3)) then true else (!x4)))=true then R8 x1.Params else some default)>>=fun x5=>
  (if (!(bif (bif (bif (!x2) then true else (!x3)) then true else (!x4)) then true else (!x5)))=true then R8 x1.Vars else some default)>>=fun x6=>
  (if (!(bif (bif (bif (bif (!x2) then true else (!x3)) then true else (!x4)) then true else (!x5)) then true else (!x6)))=true then U6 x1.Body else some default)>>=fun x7=>
  if (bif (bif (bif (bif (bif (!x2) then true else (!x3)) then true else (!x4)) then true else (!x5)) then true else (!x6)) then true else (!x7))=true then
   some false
  else
   Ca l (IntKind.i64.wrap (i+1))
 else
  some true
 partial_fixpoint
end
abbrev Vv (l:List B0)(res:Bool):Prop:=K0 C 68 [.d (.sl (B0.rows l))] [] (Ret [] (.d (.bool res)))
abbrev A14 (l:List B0)(i:Int)(res:Bool):Prop:=LM C 49 0 Tryz.f68 [1,0,1,4] [(0,.d (.sl (B0.rows l))),(3,.d (.int .i64 i))] [] (Ret [] (.d (.bool res)))
theorem G16:(∀ l res,R8 l=some res→Vv l res)∧(∀ l i res,Ca l i=some res→A14 l i res):=by
 refine R8.mutual_partial_correctness _ _ ?_ ?_
 ·intro g1 ih1 l res hh
  exact K0.intro hC Tryz.func68 rfl rfl rfl (t' rfl (S' (t' rfl (bk' (fw' (ih1 _ _ _ hh) rfl rfl rfl)))))
 ·intro g0 g1 ih0 ih1 l i res hh
  refine W0.unroll (S' (p' 2 rfl (qe' rfl trivial (B0.lenA _) (e' rfl (ci' rfl hh (fun hh=>?_) (fun hh=>?_))))))
  ·obtain ⟨x1,hx1,hh⟩:=bs' hh
   obtain ⟨x2,hx2,hh⟩:=bs' hh
   obtain ⟨x3,hx3,hh⟩:=bs' hh
   obtain ⟨x4,hx4,hh⟩:=bs' hh
   obtain ⟨x5,hx5,hh⟩:=bs' hh
   obtain ⟨x6,hx6,hh⟩:=bs' hh
   obtain ⟨x7,hx7,hh⟩:=bs' hh
   refine sk' (S' (bk' (p' 2 rfl (i' rfl (U0 hx1) (B0.idx hx1) rfl (q' rfl (E0.nf hC rfl (E0.s hC rfl (n' (sg' 34 rfl (G' 2 rfl (AG.c rfl rfl (fun _=>trivial) (fun _=>Af hx2) (G' 3 rfl (a1' rfl ?_)))))))))))))
   refine AG.c rfl rfl (fun hg=>⟨hg,trivial⟩) (fun hw=>Tv (G1 hw hx3)) (a1' rfl (po' rfl (G' 2 rfl (a1' rfl (AG.c rfl rfl (fun hg=>⟨hg,trivial⟩) (fun hw=>Pe (G1 hw hx4)) (a1' rfl (po' rfl (G' 2 rfl (a1' rfl (AG.c rfl rfl (fun hg=>⟨hg,trivial⟩) (fun hw=>ih0 _ _ (G1 hw hx5)) (a1' rfl (po' rfl (G' 2 rfl ?_)))))))))))))
   refine a1' rfl (AG.c rfl rfl (fun hg=>⟨hg,trivial⟩) (fun hw=>ih0 _ _ (G1 hw hx6)) (a1' rfl (po' rfl (G' 2 rfl (a1' rfl (AG.c rfl rfl (fun hg=>⟨hg,trivial⟩) (fun hw=>Nt (G1 hw hx7)) (a1' rfl (po' rfl (an' (n' (ci' rfl hh (fun hh=>?_) (fun hh=>?_))))))))))))
   ·cases hh
    exact t' rfl (re' (rt' rfl rfl rfl))
   exact sk' (T' rfl (lw' (ih1 _ _ _ hh) rfl rfl rfl))
  cases hh
  exact ex' (t' rfl (re' (rt' rfl rfl rfl)))
theorem A19 {l res}(hh:R8 l=some res):Vv l res:=(G16).1 _ _ hh
def Qe (n:Int):Option Bool:=
 some (bif (decide (n≥(-1048576))) then (decide (n≤1048576)) else false)
theorem Qi {n res}(hh:Qe n=some res):K0 C 134 [.d (.int .i64 n)] [] (Ret [] (.d (.bool res))):=by
 unfold Qe at hh
 cases hh
 exact K0.intro hC Tryz.func134 rfl rfl rfl (t' rfl (sg' 7 rfl (G' 4 rfl (a1' rfl (pa' rfl (a0' rfl (an' (n' (re' (rt' rfl rfl rfl))))))))))
mutual
def T5 (t:A0):Option Bool:=
 (if (t.Kind == 1)=true then Qe t.Low else some default)>>=fun x1=>
 (if ((t.Kind == 1)&&(!(!x1)))=true then Qe t.High else some default)>>=fun x2=>
 if (bif (bif (bif (t.Kind == 1) then (bif (bif (!x1) then true else (!x2)) then true else (decide (t.Low > t.High))) else false) then true else (bif (t.Kind == 2) then (bif (decide (t.Size < 1)) then true else (decide (t.Size > 32))) else false)) then true else (decide (((t.Of).length:Int) > 32)))=true then
  some false
 else
  G9 t 0
 partial_fixpoint
def G9 (t:A0)(i:Int):Option Bool:=
 if (decide (i < ((t.Of).length:Int)))=true then
  idx t.Of i>>=fun x3=>
  T5 x3>>=fun x4=>
  if (!x4)=true then
   some false
  else
   G9 t (IntKind.i64.wrap (i+1))
 else
  some true
 partial_fixpoint
end
abbrev Ot (t:A0)(res:Bool):Prop:=K0 C 135 [.agg (A0.cells t)] [] (Ret [] (.d (.bool res)))
abbrev K12 (t:A0)(i:Int)(res:Bool):Prop:=LM C 61 0 Tryz.f135 [1,1,0,1,4] [(1,.ref 0 0),(3,.d (.int .i64 i))] [.row (A0.cells t) 40] (Ret [] (.d (.bool res)))
theorem B14:(∀ t res,T5 t=some res→Ot t res)∧(∀ t i res,G9 t i=some res→K12 t i res):=by
 refine T5.mutual_partial_correctness _ _ ?_ ?_
 ·intro g1 ih1 t res hh
  obtain ⟨x1,hx1,hh⟩:=bs' hh
  obtain ⟨x2,hx2,hh⟩:=bs' hh
  refine K0.intro hC Tryz.func135 rfl rfl rfl (s' rfl rfl (E0.n hC rfl (e' rfl (S' (sg' 43 rfl (G' 5 rfl (a1' rfl (AG.c rfl rfl (fun hg=>⟨hg,trivial⟩) (fun hw=>Qi (G1 hw hx1)) (a1' rfl (a1' rfl (a0' rfl (a1' rfl (AG.c rfl rfl (fun hg=>⟨hg,trivial⟩) (fun hw=>Qi (G1 hw hx2)) ?_)))))))))))))
  refine a1' rfl (pO' rfl (a1' rfl (a0' rfl (a1' rfl (a0' rfl (a1' rfl (a2' rfl (pO' rfl (pa' rfl (G' 2 rfl (a1' rfl (a1' rfl (a1' rfl ?_)))))))))))))
  refine a0' rfl (a1' rfl (a1' rfl (a1' rfl (a0' rfl (a1' rfl (a1' rfl (pO' rfl (pA' rfl (po' rfl (G' 2 rfl (a1' rfl (AG.qe hC rfl (fun hg=>⟨⟨hg,trivial⟩,trivial⟩) (A0.lenA _) (a1' rfl ?_)))))))))))))
  refine po' rfl (an' (n' (ci' rfl hh (fun hh=>?_) (fun hh=>?_))))
  ·cases hh
   exact t' rfl (re' (rt' rfl rfl rfl))
  exact sk' (S' (t' rfl (bk' (fw' (ih1 _ _ _ hh) rfl rfl rfl))))
 ·intro g0 g1 ih0 ih1 t i res hh
  refine W0.unroll (S' (p' 3 rfl (qe' rfl trivial (A0.lenA _) (e' rfl (ci' rfl hh (fun hh=>?_) (fun hh=>?_))))))
  ·obtain ⟨x3,hx3,hh⟩:=bs' hh
   obtain ⟨x4,hx4,hh⟩:=bs' hh
   refine sk' (S' (bk' (p' 3 rfl (i' rfl (U0 hx3) (A0.idx hx3) rfl (q' rfl (c' (ih0 _ _ hx4) rfl rfl (e' rfl (ci' rfl hh (fun hh=>?_) (fun hh=>?_)))))))))
   ·cases hh
    exact t' rfl (re' (rt' rfl rfl rfl))
   exact sk' (T' rfl (lw' (ih1 _ _ _ hh) rfl rfl rfl))
  cases hh
  exact ex' (t' rfl (re' (rt' rfl rfl rfl)))
theorem Ds {t res}(hh:T5 t=some res):Ot t res:=(B14).1 _ _ hh
mutual
def F3 (e:D0):Option Bool:=
 if (bif (e.Op == 0) then (bif (decide (e.NV < 0)) then true else (decide (e.NV > 1048576))) else false)=true then
  some false
 else
  H9 e 0
 partial_fixpoint
def H9 (e:D0)(i:Int):Option Bool:=
 if (decide (i < ((e.Kids).length:Int)))=true then
  idx e.Kids i>>=fun x1=>
  F3 x1>>=fun x2=>
  if (!x2)=true then
   some false
  else
   H9 e (IntKind.i64.wrap (i+1))
 else
  some true
 partial_fixpoint
end
abbrev Pt (e:D0)(res:Bool):Prop:=K0 C 93 [.agg (D0.cells e)] [] (Ret [] (.d (.bool res)))
abbrev L12 (e:D0)(i:Int)(res:Bool):Prop:=LM C 31 0 Tryz.f93 [1,1,0,1,4] [(1,.ref 0 0),(3,.d (.int .i64 i))] [.row (D0.cells e) 34] (Ret [] (.d (.bool res)))
theorem C14:(∀ e res,F3 e=some res→Pt e res)∧(∀ e i res,H9 e i=some res→L12 e i res):=by
 refine F3.mutual_partial_correctness _ _ ?_ ?_
 ·intro g1 ih1 e res hh
  refine K0.intro hC Tryz.func93 rfl rfl rfl (s' rfl rfl (E0.n hC rfl (e' rfl (S' (sg' 13 rfl (G' 5 rfl (a1' rfl (a1' rfl (a1' rfl (a0' rfl (a1' rfl (a1' rfl (pO' rfl ?_)))))))))))))
  refine pa' rfl (an' (n' (ci' rfl hh (fun hh=>?_) (fun hh=>?_))))
  ·cases hh
   exact t' rfl (re' (rt' rfl rfl rfl))
  exact sk' (S' (t' rfl (bk' (fw' (ih1 _ _ _ hh) rfl rfl rfl))))
 ·intro g0 g1 ih0 ih1 e i res hh
  refine W0.unroll (S' (p' 3 rfl (qe' rfl trivial (D0.lenA _) (e' rfl (ci' rfl hh (fun hh=>?_) (fun hh=>?_))))))
  ·obtain ⟨x1,hx1,hh⟩:=bs' hh
   obtain ⟨x2,hx2,hh⟩:=bs' hh
   refine sk' (S' (bk' (p' 3 rfl (i' rfl (U0 hx1) (D0.idx hx1) rfl (q' rfl (c' (ih0 _ _ hx2) rfl rfl (e' rfl (ci' rfl hh (fun hh=>?_) (fun hh=>?_)))))))))
   ·cases hh
    exact t' rfl (re' (rt' rfl rfl rfl))
   exact sk' (T' rfl (lw' (ih1 _ _ _ hh) rfl rfl rfl))
  cases hh
  exact ex' (t' rfl (re' (rt' rfl rfl rfl)))
theorem Dc {e res}(hh:F3 e=some res):Pt e res:=(C14).1 _ _ hh
def E5 (s:C0)(k:Int):Option Bool:=
 if (decide (k < ((s.Numbers).length:Int)))=true then
  idx s.Numbers k>>=fun x3=>
  (if (!(decide (x3 < 0)))=true then idx s.Numbers k else some default)>>=fun x4=>
  (if ((!(bif (decide (x3 < 0)) then true else (decide (x4 > 1048576))))&&(decide (k > 0)))=true then idx s.Numbers k else some default)>>=fun x5=>
  (if ((!(bif (decide (x3 < 0)) then true else (decide (x4 > 1048576))))&&(decide (k > 0)))=true then idx s.Numbers (IntKind.i64.wrap (k - 1)) else some default)>>=fun x6=>
  if (bif (bif (decide (x3 < 0)) then true else (decide (x4 > 1048576))) then true else (bif (decide (k > 0)) then (decide (x5≤x6)) else false))=true then
   some false
  else
   E5 s (IntKind.i64.wrap (k+1))
 else
  some true
 partial_fixpoint
abbrev Rp (s:C0)(k:Int)(res:Bool):Prop:=LM C 105 0 Tryz.f136 [1,1,1,1,0,1,2,1,1,4] [(1,.ref 0 0),(3,.d (.int .i64 k))] [.row (C0.cells s) 53] (Ret [] (.d (.bool res)))
theorem Lz (s:C0):(∀ k res,E5 s k=some res→Rp s k res):=by
 refine E5.partial_correctness s _ ?_
 ·intro g0 ih0 k res hh
  refine W0.unroll (S' (p' 3 rfl (qe' rfl trivial (ei64.lenA _) (e' rfl (ci' rfl hh (fun hh=>?_) (fun hh=>?_))))))
  ·obtain ⟨x3,hx3,hh⟩:=bs' hh
   obtain ⟨x4,hx4,hh⟩:=bs' hh
   obtain ⟨x5,hx5,hh⟩:=bs' hh
   obtain ⟨x6,hx6,hh⟩:=bs' hh
   refine sk' (S' (bk' (S' (AEx.drawG hC 32 rfl rfl rfl (G' 3 rfl (AG.i hC rfl rfl (fun _=>trivial) (fun hw=>⟨U0 hx3,ei64.idx hx3,rfl⟩) (G' 4 rfl (a1' rfl (a0' rfl (AG.i hC rfl rfl (fun hg=>⟨hg,hg,trivial⟩) (fun hw=>⟨U0 (G1 hw hx4),ei64.idx (G1 hw hx4),rfl⟩) (a1' rfl (a1' rfl (po' rfl ?_)))))))))))))
   refine G' 2 rfl (a1' rfl (a1' rfl (a0' rfl (a1' rfl (a0' rfl (AG.i hC rfl rfl (fun hg=>⟨hg,hg,trivial⟩) (fun hw=>⟨U0 (G1 hw hx5),ei64.idx (G1 hw hx5),rfl⟩) (a1' rfl (a0' rfl (a1' rfl (a0' rfl (a1' rfl (AG.i hC rfl rfl (fun hg=>⟨hg,hg,trivial⟩) (fun hw=>⟨U0 (G1 hw hx6),ei64.idx (G1 hw hx6),rfl⟩) (a1' rfl ?_)))))))))))))
   refine a2' rfl (pA' rfl (po' rfl (an' (n' (ci' rfl hh (fun hh=>?_) (fun hh=>?_))))))
   ·cases hh
    exact t' rfl (re' (rt' rfl rfl rfl))
   exact sk' (T' rfl (lw' (ih0 _ _ hh) rfl rfl rfl))
  cases hh
  exact ex' (t' rfl (re' (rt' rfl rfl rfl)))
theorem L10 {s k res}(hh:E5 s k=some res):Rp s k res:=(Lz s) _ _ hh
end Go.Proofs.YtdkabnfphmmmnaaGreatDoor

set_option maxRecDepth 100000
set_option maxHeartbeats 4000000
set_option synthInstance.maxSize 20000
set_option linter.unusedVariables false
namespace Go.Proofs.YtdkabnfphmmmnaaGreatDoor
open Go.Am
def Sf (s:C0):Option Bool:=
 if (s.Verb == 4)=true then
  some (bif (decide (s.NV≥0)) then (decide (s.NV≤1048576)) else false)
 else
  if (s.Verb == 6)=true then
   some (bif (decide (s.NV≥0)) then (decide (s.NV≤4096)) else false)
  else
   if (s.Verb == 7)=true then
    Qe s.Low>>=fun x1=>
    (if x1=true then Qe s.High else some default)>>=fun x2=>
    some (bif (bif (bif x1 then x2 else false) then (decide (s.Low≤s.High)) else false) then (decide ((IntKind.i64.wrap ((IntKind.i64.wrap (s.High - s.Low))+1))≤4096)) else false)
   else
    if (s.Verb == 8)=true then
     if (bif (decide (((s.Numbers).length:Int) < 1)) then true else (decide (((s.Numbers).length:Int) > 32)))=true then
      some false
     else
      E5 s 0
    else
     some true
theorem H16 {s res}(hh:Sf s=some res):K0 C 136 [.agg (C0.cells s)] [] (Ret [] (.d (.bool res))):=by
 unfold Sf at hh
 refine K0.intro hC Tryz.func136 rfl rfl rfl (s' rfl rfl (E0.n hC rfl (e' rfl (S' (t' rfl (ci' rfl hh (fun hh=>?_) (fun hh=>?_)))))))
 ·cases hh
  exact sg' 9 rfl (G' 5 rfl (a1' rfl (a1' rfl (pa' rfl (a0' rfl (an' (n' (re' (rt' rfl rfl rfl)))))))))
 refine sk' (S' (t' rfl (ci' rfl hh (fun hh=>?_) (fun hh=>?_))))
 ·cases hh
  exact sg' 9 rfl (G' 5 rfl (a1' rfl (a1' rfl (pa' rfl (a0' rfl (an' (n' (re' (rt' rfl rfl rfl)))))))))
 refine sk' (S' (t' rfl (ci' rfl hh (fun hh=>?_) (fun hh=>?_))))
 ·obtain ⟨x1,hx1,hh⟩:=bs' hh
  obtain ⟨x2,hx2,hh⟩:=bs' hh
  cases hh
  refine sg' 25 rfl (G' 2 rfl (AG.c rfl rfl (fun _=>trivial) (fun _=>Qi hx1) (G' 2 rfl (a1' rfl (AG.c rfl rfl (fun hg=>⟨hg,trivial⟩) (fun hw=>Qi (G1 hw hx2)) (pa' rfl (G' 2 rfl (a1' rfl (a0' rfl (a1' rfl (a2' rfl (pa' rfl (G' 2 rfl ?_)))))))))))))
  exact a1' rfl (a0' rfl (a1' rfl (a2' rfl (a1' rfl (a1' rfl (pa' rfl (a0' rfl (an' (n' (re' (rt' rfl rfl rfl)))))))))))
 refine sk' (S' (t' rfl (ci' rfl hh (fun hh=>?_) (fun hh=>?_))))
 ·refine S' (sg' 10 rfl (G' 2 rfl (AG.qe hC rfl (fun hg=>⟨trivial,trivial⟩) (ei64.lenA _) (G' 3 rfl (a1' rfl (AG.qe hC rfl (fun hg=>⟨⟨hg,trivial⟩,trivial⟩) (ei64.lenA _) (a1' rfl (po' rfl (an' (n' (ci' rfl hh (fun hh=>?_) (fun hh=>?_))))))))))))
  ·cases hh
   exact t' rfl (re' (rt' rfl rfl rfl))
  exact sk' (t' rfl (bk' (fw' (L10 hh) rfl rfl rfl)))
 cases hh
 exact sk' (t' rfl (re' (rt' rfl rfl rfl)))
mutual
def F5 (l:List C0):Option Bool:=
 D8 l 0
 partial_fixpoint
def D8 (l:List C0)(i:Int):Option Bool:=
 if (decide (i < ((l).length:Int)))=true then
  idx l i>>=fun x1=>
  Sf x1>>=fun x2=>
  (if (!(!x2))=true then F3 x1.Place else some default)>>=fun x3=>
  (if (!(bif (!x2) then true else (!x3)))=true then F3 x1.Value else some default)>>=fun x4=>
  (if (!(bif (bif (!x2) then true else (!x3)) then true else (!x4)))=true then F5 x1.Then else some default)>>=fun x5=>
  (if (!(bif (bif (bif (!x2) then true else (!x3)) then true else (!x4)) then true else (!x5)))=true then F5 x1.Else else some default)>>=fun x6=>
  if (bif (bif (bif (bif (!x2) then true else (!x3)) then true else (!x4)) then true else (!x5)) then true else (!x6))=true then
   some false
  else
   Hb l x1 i 0
 else
  some true
 partial_fixpoint
def Hb (l:List C0)(x1:C0)(i1:Int)(k:Int):Option Bool:=
 if (decide (k < ((x1.Args).length:Int)))=true then
  idx x1.Args k>>=fun x7=>
  F3 x7>>=fun x8=>
  if (!x8)=true then
   some false
  else
   Hb l x1 i1 (IntKind.i64.wrap (k+1))
 else
  D8 l (IntKind.i64.wrap (i1+1))
 partial_fixpoint
end
abbrev Es (l:List C0)(res:Bool):Prop:=K0 C 71 [.d (.sl (C0.rows l))] [] (Ret [] (.d (.bool res)))
abbrev M10 (l:List C0)(i:Int)(res:Bool):Prop:=LM C 57 0 Tryz.f71 [1,0,1,4] [(0,.d (.sl (C0.rows l))),(3,.d (.int .i64 i))] [] (Ret [] (.d (.bool res)))
abbrev N10 (l:List C0)(x1:C0)(i1:Int)(k:Int)(res:Bool):Prop:=LM C 57 0 Tryz.f71 [1,0,1,4,5,1,0,4,1,1,1,4] [(0,.d (.sl (C0.rows l))),(3,.d (.int .i64 i1)),(4,.ref 0 0),(5,.d (.int .i64 k))] [.row (C0.cells x1) 53] (Ret [] (.d (.bool res)))
theorem M12:(∀ l res,F5 l=some res→Es l res)∧(∀ l i res,D8 l i=some res→M10 l i res)∧(∀ l x1 i1 k res,Hb l x1 i1 k=some res→N10 l x1 i1 k res):=by
 refine F5.mutual_partial_correctness _ _ _ ?_ ?_ ?_
 ·intro g1 ih1 l res hh
  exact K0.intro hC Tryz.func71 rfl rfl rfl (t' rfl (S' (t' rfl (bk' (fw' (ih1 _ _ _ hh) rfl rfl rfl)))))
 ·intro g0 g2 ih0 ih2 l i res hh
  refine W0.unroll (S' (p' 2 rfl (qe' rfl trivial (C0.lenA _) (e' rfl (ci' rfl hh (fun hh=>?_) (fun hh=>?_))))))
  ·obtain ⟨x1,hx1,hh⟩:=bs' hh
   obtain ⟨x2,hx2,hh⟩:=bs' hh
   obtain ⟨x3,hx3,hh⟩:=bs' hh
   obtain ⟨x4,hx4,hh⟩:=bs' hh
   obtain ⟨x5,hx5,hh⟩:=bs' hh
   obtain ⟨x6,hx6,hh⟩:=bs' hh
   refine sk' (S' (bk' (p' 2 rfl (i' rfl (U0 hx1) (C0.idx hx1) rfl (q' rfl (E0.nf hC rfl (E0.s hC rfl (n' (S' (sg' 27 rfl (a0' rfl (AG.c rfl rfl (fun _=>trivial) (fun _=>H16 hx2) (G' 3 rfl ?_)))))))))))))
   refine a1' rfl (AG.c rfl rfl (fun hg=>⟨hg,trivial⟩) (fun hw=>Dc (G1 hw hx3)) (a1' rfl (po' rfl (G' 2 rfl (a1' rfl (AG.c rfl rfl (fun hg=>⟨hg,trivial⟩) (fun hw=>Dc (G1 hw hx4)) (a1' rfl (po' rfl (G' 2 rfl (a1' rfl (AG.c rfl rfl (fun hg=>⟨hg,trivial⟩) (fun hw=>ih0 _ _ (G1 hw hx5)) (a1' rfl (po' rfl ?_)))))))))))))
   refine G' 2 rfl (a1' rfl (AG.c rfl rfl (fun hg=>⟨hg,trivial⟩) (fun hw=>ih0 _ _ (G1 hw hx6)) (a1' rfl (po' rfl (an' (n' (ci' rfl hh (fun hh=>?_) (fun hh=>?_))))))))
   ·cases hh
    exact t' rfl (re' (rt' rfl rfl rfl))
   exact sk' (t' rfl (bk' (fw' (ih2 _ _ _ _ _ hh) rfl rfl rfl)))
  cases hh
  exact ex' (t' rfl (re' (rt' rfl rfl rfl)))
 ·intro g1 g2 ih1 ih2 l x1 i1 k res hh
  refine W0.unroll (S' (p' 3 rfl (qe' rfl trivial (D0.lenA _) (e' rfl (ci' rfl hh (fun hh=>?_) (fun hh=>?_))))))
  ·obtain ⟨x7,hx7,hh⟩:=bs' hh
   obtain ⟨x8,hx8,hh⟩:=bs' hh
   refine sk' (S' (bk' (p' 3 rfl (i' rfl (U0 hx7) (D0.idx hx7) rfl (q' rfl (c' (Dc hx8) rfl rfl (e' rfl (ci' rfl hh (fun hh=>?_) (fun hh=>?_)))))))))
   ·cases hh
    exact t' rfl (re' (rt' rfl rfl rfl))
   exact sk' (T' rfl (lw' (ih2 _ _ _ _ _ hh) rfl rfl rfl))
  exact ex' (T' rfl (lw' (ih1 _ _ _ hh) rfl rfl rfl))
theorem Vq {l res}(hh:F5 l=some res):Es l res:=(M12).1 _ _ hh
mutual
def L6 (l:List B0):Option Bool:=
 E8 l 0
 partial_fixpoint
def E8 (l:List B0)(i:Int):Option Bool:=
 if (decide (i < ((l).length:Int)))=true then
  idx l i>>=fun x1=>
  Qe x1.Init>>=fun x2=>
  if (bif (!x2) then true else (bif (x1.TypeV.Kind == 0) then (bif (decide (x1.Init < 0)) then true else (decide (x1.Init > 1))) else false))=true then
   some false
  else
   T5 x1.TypeV>>=fun x3=>
   (if (!(!x3))=true then F3 x1.Value else some default)>>=fun x4=>
   (if (!(bif (!x3) then true else (!x4)))=true then L6 x1.Params else some default)>>=fun x5=>
   (if (!(bif (bif (!x3) then true else (!x4)) then true else (!x5)))=true then L6 x1.Vars else some default)>>=fun x6=>
   (if (!(bif (bif (bif (!x3) then true else (!x4)) then true else (!x5)) then true else (!x6)))=true then F5 x1.Body else some default)>>=fun x7=>
   if (bif (bif (bif (bif (!x3) then true else (!x4)) then true else (!x5)) then true else (!x6)) then true else (!x7))=true then
    some false
   else
    E8 l (IntKind.i64.wrap (i+1))
 else
  some true
 partial_fixpoint
end
abbrev Fs (l:List B0)(res:Bool):Prop:=K0 C 70 [.d (.sl (B0.rows l))] [] (Ret [] (.d (.bool res)))
abbrev O10 (l:List B0)(i:Int)(res:Bool):Prop:=LM C 63 0 Tryz.f70 [1,0,1,4] [(0,.d (.sl (B0.rows l))),(3,.d (.int .i64 i))] [] (Ret [] (.d (.bool res)))
theorem N12:(∀ l res,L6 l=some res→Fs l res)∧(∀ l i res,E8 l i=some res→O10 l i res):=by
 refine L6.mutual_partial_correctness _ _ ?_ ?_
 ·intro g1 ih1 l res hh
  exact K0.intro hC Tryz.func70 rfl rfl rfl (t' rfl (S' (t' rfl (bk' (fw' (ih1 _ _ _ hh) rfl rfl rfl)))))
 ·intro g0 g1 ih0 ih1 l i res hh
  refine W0.unroll (S' (p' 2 rfl (qe' rfl trivial (B0.lenA _) (e' rfl (ci' rfl hh (fun hh=>?_) (fun hh=>?_))))))
  ·obtain ⟨x1,hx1,hh⟩:=bs' hh
   obtain ⟨x2,hx2,hh⟩:=bs' hh
   refine sk' (S' (bk' (p' 2 rfl (i' rfl (U0 hx1) (B0.idx hx1) rfl (q' rfl (E0.nf hC rfl (E0.s hC rfl (n' (S' (sg' 20 rfl (G' 2 rfl (AG.c rfl rfl (fun _=>trivial) (fun _=>Qi hx2) (G' 3 rfl ?_)))))))))))))
   refine a1' rfl (a1' rfl (a1' rfl (a1' rfl (a0' rfl (a1' rfl (a1' rfl (a1' rfl (a0' rfl (a1' rfl (a1' rfl (pO' rfl (pA' rfl (po' rfl ?_)))))))))))))
   refine an' (n' (ci' rfl hh (fun hh=>?_) (fun hh=>?_)))
   ·cases hh
    exact t' rfl (re' (rt' rfl rfl rfl))
   obtain ⟨x3,hx3,hh⟩:=bs' hh
   obtain ⟨x4,hx4,hh⟩:=bs' hh
   obtain ⟨x5,hx5,hh⟩:=bs' hh
   obtain ⟨x6,hx6,hh⟩:=bs' hh
   obtain ⟨x7,hx7,hh⟩:=bs' hh
   refine sk' (sg' 28 rfl (G' 2 rfl (AG.c rfl rfl (fun _=>trivial) (fun _=>Ds hx3) (G' 3 rfl (a1' rfl (AG.c rfl rfl (fun hg=>⟨hg,trivial⟩) (fun hw=>Dc (G1 hw hx4)) (a1' rfl (po' rfl (G' 2 rfl (a1' rfl (AG.c rfl rfl (fun hg=>⟨hg,trivial⟩) (fun hw=>ih0 _ _ (G1 hw hx5)) (a1' rfl (po' rfl ?_)))))))))))))
   refine G' 2 rfl (a1' rfl (AG.c rfl rfl (fun hg=>⟨hg,trivial⟩) (fun hw=>ih0 _ _ (G1 hw hx6)) (a1' rfl (po' rfl (G' 2 rfl (a1' rfl (AG.c rfl rfl (fun hg=>⟨hg,trivial⟩) (fun hw=>Vq (G1 hw hx7)) (a1' rfl (po' rfl (an' (n' (ci' rfl hh (fun hh=>?_) (fun hh=>?_)))))))))))))
   ·cases hh
    exact t' rfl (re' (rt' rfl rfl rfl))
   exact sk' (T' rfl (lw' (ih1 _ _ _ hh) rfl rfl rfl))
  cases hh
  exact ex' (t' rfl (re' (rt' rfl rfl rfl)))
theorem D14 {l res}(hh:L6 l=some res):Fs l res:=(N12).1 _ _ hh
def Gf (s:V0)(form:Bool)(names:Bool)(numbers:Bool):Option Int:=
 if (bif (decide (s.nodes > 1024)) then true else (decide (s.depth > 12)))=true then
  some 4
 else
  if (!form)=true then
   some 1
  else
   if (!names)=true then
    some 7
   else
    if (!numbers)=true then
     some 3
    else
     some 0
theorem Nq {s form names numbers res}(hh:Gf s form names numbers=some res):K0 C 64 [.agg (V0.cells s),.d (.bool form),.d (.bool names),.d (.bool numbers)] [] (Ret [] (.d (.int .i64 res))):=by
 unfold Gf at hh
 refine K0.intro hC Tryz.func64 rfl rfl rfl (s' rfl rfl (E0.n hC rfl (e' rfl (S' (sg' 8 rfl (G' 5 rfl (a1' rfl (a1' rfl (po' rfl (an' (n' (ci' rfl hh (fun hh=>?_) (fun hh=>?_)))))))))))))
 ·cases hh
  exact t' rfl (re' (rt' rfl rfl rfl))
 refine sk' (S' (t' rfl (ci' rfl hh (fun hh=>?_) (fun hh=>?_))))
 ·cases hh
  exact t' rfl (re' (rt' rfl rfl rfl))
 refine sk' (S' (t' rfl (ci' rfl hh (fun hh=>?_) (fun hh=>?_))))
 ·cases hh
  exact t' rfl (re' (rt' rfl rfl rfl))
 refine sk' (S' (t' rfl (ci' rfl hh (fun hh=>?_) (fun hh=>?_))))
 ·cases hh
  exact t' rfl (re' (rt' rfl rfl rfl))
 cases hh
 exact sk' (t' rfl (re' (rt' rfl rfl rfl)))
def Sp (p:I0):Option Int:=
 Qp p>>=fun x1=>
 X9 p.Decls>>=fun x2=>
 (if x2=true then T7 p.Body else some default)>>=fun x3=>
 R8 p.Decls>>=fun x4=>
 (if x4=true then U6 p.Body else some default)>>=fun x5=>
 L6 p.Decls>>=fun x6=>
 (if x6=true then F5 p.Body else some default)>>=fun x7=>
 Gf x1 (bif x2 then x3 else false) (bif x4 then x5 else false) (bif x6 then x7 else false)>>=fun x8=>
 some x8
theorem M1l {p res}(hh:Sp p=some res):K0 C 34 [.agg (I0.cells p)] [] (Ret [] (.d (.int .i64 res))):=by
 unfold Sp at hh
 obtain ⟨x1,hx1,hh⟩:=bs' hh
 obtain ⟨x2,hx2,hh⟩:=bs' hh
 obtain ⟨x3,hx3,hh⟩:=bs' hh
 obtain ⟨x4,hx4,hh⟩:=bs' hh
 obtain ⟨x5,hx5,hh⟩:=bs' hh
 obtain ⟨x6,hx6,hh⟩:=bs' hh
 obtain ⟨x7,hx7,hh⟩:=bs' hh
 obtain ⟨x8,hx8,hh⟩:=bs' hh
 cases hh
 refine K0.intro hC Tryz.func34 rfl rfl rfl (s' rfl rfl (E0.n hC rfl (e' rfl (S' (AEx.drawG hC 28 rfl rfl rfl (a0' rfl (AG.c rfl rfl (fun _=>trivial) (fun _=>J1l hx1) (G' 2 rfl (AG.c rfl rfl (fun _=>trivial) (fun _=>Y1a hx2) (G' 2 rfl (a1' rfl (AG.c rfl rfl (fun hg=>⟨hg,trivial⟩) (fun hw=>Rv (G1 hw hx3)) (pa' rfl ?_)))))))))))))
 refine G' 2 rfl (AG.c rfl rfl (fun _=>trivial) (fun _=>A19 hx4) (G' 2 rfl (a1' rfl (AG.c rfl rfl (fun hg=>⟨hg,trivial⟩) (fun hw=>Nt (G1 hw hx5)) (pa' rfl (G' 2 rfl (AG.c rfl rfl (fun _=>trivial) (fun _=>D14 hx6) (G' 2 rfl (a1' rfl (AG.c rfl rfl (fun hg=>⟨hg,trivial⟩) (fun hw=>Vq (G1 hw hx7)) (pa' rfl ?_)))))))))))
 exact AG.c rfl rfl (fun _=>trivial) (fun _=>Nq hx8) (a0' rfl (an' (n' (re' (rt' rfl rfl rfl)))))
def Ib (p:I0)(out:List Str)(i:Int):Option (List Str):=
 if (decide (i < ((p.Decls).length:Int)))=true then
  idx p.Decls i>>=fun x1=>
  if (decide ((out.length+1) * 17≤140737488355328))=true then
   Ib p (out++[x1.Name]) (IntKind.i64.wrap (i+1))
  else none
 else
  some out
 partial_fixpoint
abbrev Mz (p:I0)(out:List Str)(i:Int)(res:List Str):Prop:=LM C 23 0 Tryz.f72 [1,1,0,1,4] [(1,.ref 0 0),(3,.osl 1 (estr.rows out)),(4,.d (.int .i64 i))] [.row (I0.cells p) 25,.tok 9 1] (Ret [.dead,.tok 9 1] (.osl 1 (estr.rows res)))
theorem Z1a (p:I0):(∀ out i res,Ib p out i=some res→Mz p out i res):=by
 refine Ib.partial_correctness p _ ?_
 ·intro g0 ih0 out i res hh
  refine W0.unroll (S' (p' 3 rfl (qe' rfl trivial (B0.lenA _) (e' rfl (ci' rfl hh (fun hh=>?_) (fun hh=>?_))))))
  ·obtain ⟨x1,hx1,hh⟩:=bs' hh
   obtain ⟨c8,hh⟩:=I1 hh
   exact sk' (S' (bk' (P' 4 rfl (i' rfl (U0 hx1) (B0.idx hx1) rfl (o' 2 rfl (E0.be hC rfl (estr.rows_map [x1.Name]).symm (E0.ap hC rfl (rs:=estr.rows (out++[x1.Name])) (estr.app out [x1.Name]) (estr.sz out) (estr.sz [x1.Name]) (E4 (estr.len out) (estr.len [x1.Name]) c8) (e' rfl (T' rfl (lw' (ih0 _ _ _ hh) rfl rfl rfl))))))))))
  refine ex' (t' rfl (re' ?_))
  obtain rfl:=oi' hh
  exact ⟨_,_,[.dead,.tok 9 1],rfl,.rfl,⟨trivial,rfl,trivial⟩,rfl,rfl,rfl,rfl⟩
theorem W1d {p out i res}(hh:Ib p out i=some res):Mz p out i res:=(Z1a p) _ _ _ hh
def Jm (p:I0):Option (List Str):=
 Ib p [] 0
theorem Gu {p res}(hh:Jm p=some res):K0 C 72 [.agg (I0.cells p)] [] (Ret [.dead,.tok 9 1] (.osl 1 (estr.rows res))):=by
 unfold Jm at hh
 exact K0.intro hC Tryz.func72 rfl rfl rfl (s' rfl rfl (E0.n hC rfl (e' rfl (s' rfl rfl (E0.be hC rfl (estr.rows_map []).symm (E0.tokE 5 9 1 rfl (e' rfl (S' (t' rfl (bk' (fw' (W1d hh) rfl rfl rfl)))))))))))
def Jb (l:List Str)(name:Str)(i:Int):Option Bool:=
 if (decide (i < ((l).length:Int)))=true then
  idx l i>>=fun x1=>
  if (x1 == name)=true then
   some true
  else
   Jb l name (IntKind.i64.wrap (i+1))
 else
  some false
 partial_fixpoint
abbrev Nz (l:List Str)(name:Str)(i:Int)(res:Bool):Prop:=LM C 18 0 Tryz.f73 [1,0,1,4] [(0,.d (.sl (estr.rows l))),(1,.d (.str name)),(5,.d (.int .i64 i))] [] (Ret [] (.d (.bool res)))
theorem A1b (l:List Str)(name:Str):(∀ i res,Jb l name i=some res→Nz l name i res):=by
 refine Jb.partial_correctness l name _ ?_
 ·intro g0 ih0 i res hh
  refine W0.unroll (S' (p' 2 rfl (qe' rfl trivial (estr.lenA _) (e' rfl (ci' rfl hh (fun hh=>?_) (fun hh=>?_))))))
  ·obtain ⟨x1,hx1,hh⟩:=bs' hh
   refine sk' (S' (bk' (p' 2 rfl (i' rfl (U0 hx1) (estr.idx hx1) rfl (e' rfl (ci' rfl hh (fun hh=>?_) (fun hh=>?_)))))))
   ·cases hh
    exact t' rfl (re' (rt' rfl rfl rfl))
   exact sk' (T' rfl (lw' (ih0 _ _ hh) rfl rfl rfl))
  cases hh
  exact ex' (t' rfl (re' (rt' rfl rfl rfl)))
theorem X1d {l name i res}(hh:Jb l name i=some res):Nz l name i res:=(A1b l name) _ _ hh
def Ij (l:List Str)(name:Str):Option Bool:=
 Jb l name 0
theorem Qo {l name res}(hh:Ij l name=some res):K0 C 73 [.d (.sl (estr.rows l)),.d (.str name)] [] (Ret [] (.d (.bool res))):=by
 unfold Ij at hh
 exact K0.intro hC Tryz.func73 rfl rfl rfl (t' rfl (S' (t' rfl (bk' (fw' (X1d hh) rfl rfl rfl)))))
mutual
def G5 (p:I0)(x1:List Str)(i:Int):Option Int:=
 if (decide (i < ((p.Decls).length:Int)))=true then
  idx p.Decls i>>=fun x2=>
  slc x1 0 i>>=fun x3=>
  Ij x3 x2.Name>>=fun x4=>
  if x4=true then
   some i
  else
   if (decide ((0+x1.length) * 17≤140737488355328))=true then
    Kb p x2 x1 i x1 0
   else none
 else
  some (-1)
 partial_fixpoint
def Kb (p:I0)(x2:B0)(x1:List Str)(i1:Int)(inner:List Str)(k:Int):Option Int:=
 if (decide (k < ((x2.Params).length:Int)))=true then
  idx x2.Params k>>=fun x5=>
  Ij inner x5.Name>>=fun x6=>
  if x6=true then
   some i1
  else
   idx x2.Params k>>=fun x7=>
   if (decide ((inner.length+1) * 17≤140737488355328))=true then
    Kb p x2 x1 i1 (inner++[x7.Name]) (IntKind.i64.wrap (k+1))
   else none
 else
  Lb p x2 x1 i1 inner 0
 partial_fixpoint
def Lb (p:I0)(x2:B0)(x1:List Str)(i2:Int)(inner1:List Str)(k1:Int):Option Int:=
 if (decide (k1 < ((x2.Vars).length:Int)))=true then
  idx x2.Vars k1>>=fun x8=>
  Ij inner1 x8.Name>>=fun x9=>
  if x9=true then
   some i2
  else
   idx x2.Vars k1>>=fun x10=>
   if (decide ((inner1.length+1) * 17≤140737488355328))=true then
    Lb p x2 x1 i2 (inner1++[x10.Name]) (IntKind.i64.wrap (k1+1))
   else none
 else
  G5 p x1 (IntKind.i64.wrap (i2+1))
 partial_fixpoint
end
abbrev Gs (p:I0)(x1:List Str)(i:Int)(res:Int):Prop:=LM C 83 0 Tryz.f35 [1,1,0,1,4] [(1,.ref 0 0),(3,.d (.sl (estr.rows x1))),(4,.d (.int .i64 i))] [.row (I0.cells p) 25] (Ret [] (.d (.int .i64 res)))
abbrev I16 (p:I0)(x2:B0)(x1:List Str)(i1:Int)(inner:List Str)(k:Int)(res:Int):Prop:=LM C 83 0 Tryz.f35 [1,1,0,1,4,5,1,0,4,1,1,1,0,1,4] [(1,.ref 0 0),(3,.d (.sl (estr.rows x1))),(4,.d (.int .i64 i1)),(5,.ref 1 0),(6,.osl 2 (estr.rows inner)),(7,.d (.int .i64 k))] [.row (I0.cells p) 25,.row (B0.cells x2) 59,.tok 9 1] (Ret [] (.d (.int .i64 res)))
abbrev J16 (p:I0)(x2:B0)(x1:List Str)(i2:Int)(inner1:List Str)(k1:Int)(res:Int):Prop:=LM C 83 0 Tryz.f35 [1,1,0,1,4,5,1,0,4,1,1,1,1,1,4] [(1,.ref 0 0),(3,.d (.sl (estr.rows x1))),(4,.d (.int .i64 i2)),(5,.ref 1 0),(6,.osl 2 (estr.rows inner1)),(8,.d (.int .i64 k1))] [.row (I0.cells p) 25,.row (B0.cells x2) 59,.tok 9 1] (Ret [] (.d (.int .i64 res)))
theorem O12 (p:I0)(x1:List Str):(∀ i res,G5 p x1 i=some res→Gs p x1 i res)∧(∀ x2 i1 inner k res,Kb p x2 x1 i1 inner k=some res→I16 p x2 x1 i1 inner k res)∧(∀ x2 i2 inner1 k1 res,Lb p x2 x1 i2 inner1 k1=some res→J16 p x2 x1 i2 inner1 k1 res):=by
 refine G5.mutual_partial_correctness p x1 _ _ _ ?_ ?_ ?_
 ·intro g1 ih1 i res hh
  refine W0.unroll (S' (p' 3 rfl (qe' rfl trivial (B0.lenA _) (e' rfl (ci' rfl hh (fun hh=>?_) (fun hh=>?_))))))
  ·obtain ⟨x2,hx2,hh⟩:=bs' hh
   obtain ⟨x3,hx3,hh⟩:=bs' hh
   obtain ⟨x4,hx4,hh⟩:=bs' hh
   refine sk' (S' (bk' (p' 3 rfl (i' rfl (U0 hx2) (B0.idx hx2) rfl (q' rfl (E0.nf hC rfl (E0.s hC rfl (n' (S' (S' (AEx.draw hC 6 rfl rfl rfl (O' 2 rfl (AQ.dx hC rfl (estr.part hx3) (estr.sz _) ?_)))))))))))))
   refine O' 2 rfl (Qc' (Qo hx4) rfl rfl (Qn' (n' (ci' rfl hh (fun hh=>?_) (fun hh=>?_)))))
   ·cases hh
    exact t' rfl (re' (rt' rfl rfl rfl))
   obtain ⟨c27,hh⟩:=I1 hh
   exact sk' (s' rfl rfl (E0.be hC rfl (estr.rows_map []).symm (q' rfl (E0.ap hC rfl (rs:=estr.rows x1) rfl (estr.sz []) (estr.sz x1) (E4 (estr.len []) (estr.len x1) c27) (e' rfl (S' (t' rfl (bk' (fw' (ih1 _ _ _ _ _ hh) rfl rfl rfl)))))))))
  cases hh
  exact ex' (t' rfl (re' (rt' rfl rfl rfl)))
 ·intro g1 g2 ih1 ih2 x2 i1 inner k res hh
  refine W0.unroll (S' (p' 3 rfl (qe' rfl trivial (B0.lenA _) (e' rfl (ci' rfl hh (fun hh=>?_) (fun hh=>?_))))))
  ·obtain ⟨x5,hx5,hh⟩:=bs' hh
   obtain ⟨x6,hx6,hh⟩:=bs' hh
   refine sk' (S' (bk' (S' (p' 4 rfl (i' rfl (U0 hx5) (B0.idx hx5) rfl (o' 2 rfl (E0.cl rfl (Qo hx6) ⟨.osl,.rfl,trivial⟩ rfl (n' (ci' rfl hh (fun hh=>?_) (fun hh=>?_))))))))))
   ·cases hh
    exact t' rfl (re' (rt' rfl rfl rfl))
   obtain ⟨x7,hx7,hh⟩:=bs' hh
   obtain ⟨c28,hh⟩:=I1 hh
   exact sk' (P' 4 rfl (i' rfl (U0 hx7) (B0.idx hx7) rfl (o' 2 rfl (E0.be hC rfl (estr.rows_map [x7.Name]).symm (E0.ap hC rfl (rs:=estr.rows (inner++[x7.Name])) (estr.app inner [x7.Name]) (estr.sz inner) (estr.sz [x7.Name]) (E4 (estr.len inner) (estr.len [x7.Name]) c28) (e' rfl (T' rfl (lw' (ih1 _ _ _ _ _ hh) rfl rfl rfl))))))))
  exact ex' (t' rfl (bk' (fw' (ih2 _ _ _ _ _ hh) rfl rfl rfl)))
 ·intro g0 g2 ih0 ih2 x2 i2 inner1 k1 res hh
  refine W0.unroll (S' (p' 3 rfl (qe' rfl trivial (B0.lenA _) (e' rfl (ci' rfl hh (fun hh=>?_) (fun hh=>?_))))))
  ·obtain ⟨x8,hx8,hh⟩:=bs' hh
   obtain ⟨x9,hx9,hh⟩:=bs' hh
   refine sk' (S' (bk' (S' (p' 4 rfl (i' rfl (U0 hx8) (B0.idx hx8) rfl (o' 2 rfl (E0.cl rfl (Qo hx9) ⟨.osl,.rfl,trivial⟩ rfl (n' (ci' rfl hh (fun hh=>?_) (fun hh=>?_))))))))))
   ·cases hh
    exact t' rfl (re' (rt' rfl rfl rfl))
   obtain ⟨x10,hx10,hh⟩:=bs' hh
   obtain ⟨c29,hh⟩:=I1 hh
   exact sk' (P' 4 rfl (i' rfl (U0 hx10) (B0.idx hx10) rfl (o' 2 rfl (E0.be hC rfl (estr.rows_map [x10.Name]).symm (E0.ap hC rfl (rs:=estr.rows (inner1++[x10.Name])) (estr.app inner1 [x10.Name]) (estr.sz inner1) (estr.sz [x10.Name]) (E4 (estr.len inner1) (estr.len [x10.Name]) c29) (e' rfl (T' rfl (lw' (ih2 _ _ _ _ _ hh) rfl rfl rfl))))))))
  exact ex' (T' rfl (lw' (ih0 _ _ hh) rfl rfl rfl))
theorem E14 {p x1 i res}(hh:G5 p x1 i=some res):Gs p x1 i res:=(O12 p x1).1 _ _ hh
def Ri (p:I0):Option Int:=
 Jm p>>=fun x1=>
 G5 p x1 0
theorem B1b {p res}(hh:Ri p=some res):K0 C 35 [.agg (I0.cells p)] [] (Ret [] (.d (.int .i64 res))):=by
 unfold Ri at hh
 obtain ⟨x1,hx1,hh⟩:=bs' hh
 refine K0.intro hC Tryz.func35 rfl rfl rfl (s' rfl rfl (E0.n hC rfl (e' rfl (p' 1 rfl (g' [] (Gu hx1) rfl rfl rfl rfl rfl rfl (e' rfl (S' (t' rfl (bk' ?_)))))))))
 refine AEx.ofLoop ?_
 refine W0.wk ?_ (E14 hh)
 exact ⟨⟨⟨.rfl,rfl⟩,⟨.osl,rfl⟩,⟨.rfl,rfl⟩,trivial⟩,⟨⟨rfl,.refl _,rfl⟩,trivial⟩,rfl⟩
def Bf (t:A0):Option Int:=
 Zc (V0.mk 0 0) t true>>=fun x1=>
 F9 t>>=fun x2=>
 U7 t>>=fun x3=>
 T5 t>>=fun x4=>
 Gf x1 x2 x3 x4>>=fun x5=>
 some x5
theorem Wv {t res}(hh:Bf t=some res):K0 C 195 [.agg (A0.cells t)] [] (Ret [] (.d (.int .i64 res))):=by
 unfold Bf at hh
 obtain ⟨x1,hx1,hh⟩:=bs' hh
 obtain ⟨x2,hx2,hh⟩:=bs' hh
 obtain ⟨x3,hx3,hh⟩:=bs' hh
 obtain ⟨x4,hx4,hh⟩:=bs' hh
 obtain ⟨x5,hx5,hh⟩:=bs' hh
 cases hh
 refine K0.intro hC Tryz.func195 rfl rfl rfl (s' rfl rfl (E0.n hC rfl (e' rfl (S' (AEx.draw hC 11 rfl rfl rfl (O' 2 rfl (Qc' (Fz hx1) rfl rfl (Q' rfl (Qc' (Dx hx2) rfl rfl (Q' rfl (Qc' (Tv hx3) rfl rfl (Q' rfl (Qc' (Ds hx4) rfl rfl ?_)))))))))))))
 exact Qc' (Nq hx5) rfl rfl (E' rfl (n' (re' (rt' rfl rfl rfl))))
def S8 (known:List B0)(t:A0)(i:Int):Option (A0×Bool):=
 if (decide (i < ((known).length:Int)))=true then
  idx known i>>=fun x1=>
  if (x1.Name == t.Name)=true then
   idx known i>>=fun x2=>
   some (x2.TypeV,true)
  else
   S8 known t (IntKind.i64.wrap (i+1))
 else
  some ((A0.mk 0 0 0 0 [] [] []),false)
 partial_fixpoint
abbrev Xv (known:List B0)(t:A0)(i:Int)(res:A0×Bool):Prop:=LM C 61 0 Tryz.f220 [1,0,1,2,0,1,4] [(0,.d (.sl (B0.rows known))),(3,.ref 0 0),(4,.ref 1 0),(6,.d (.int .i64 i))] [.row (A0.cells t) 40,.row [.d (.int .i64 0),.d (.int .i64 0),.d (.int .i64 0),.d (.int .i64 0),.d (.str []),.full (estr.rows []),.full (A0.rows [])] 40] (Ret [] (.tup [.agg (A0.cells res.1),.d (.bool res.2)]))
theorem K16 (known:List B0)(t:A0):(∀ i res,S8 known t i=some res→Xv known t i res):=by
 refine S8.partial_correctness known t _ ?_
 ·intro g0 ih0 i res hh
  refine W0.unroll (S' (p' 2 rfl (qe' rfl trivial (B0.lenA _) (e' rfl (ci' rfl hh (fun hh=>?_) (fun hh=>?_))))))
  ·obtain ⟨x1,hx1,hh⟩:=bs' hh
   refine sk' (S' (bk' (S' (AEx.draw hC 8 rfl rfl rfl (O' 2 rfl (AQ.i hC rfl (U0 hx1) (B0.idx hx1) rfl (E' rfl (n' (ci' rfl hh (fun hh=>?_) (fun hh=>?_))))))))))
   ·obtain ⟨x2,hx2,hh⟩:=bs' hh
    cases hh
    exact p' 2 rfl (i' rfl (U0 hx2) (B0.idx hx2) rfl (o' 2 rfl (E0.s hC rfl (e' rfl (re' (rt' rfl rfl rfl))))))
   exact sk' (T' rfl (lw' (ih0 _ _ hh) rfl rfl rfl))
  cases hh
  exact ex' (p' 1 rfl (E0.s hC rfl (e' rfl (re' (rt' rfl rfl rfl)))))
theorem B19 {known t i res}(hh:S8 known t i=some res):Xv known t i res:=(K16 known t) _ _ hh
mutual
def Bd (known:List B0)(t:A0):Option (A0×Bool):=
 if (t.Kind == 4)=true then
  S8 known t 0
 else
  Od known t [] 0
 partial_fixpoint
def Od (known:List B0)(t:A0)(of:List A0)(i1:Int):Option (A0×Bool):=
 if (decide (i1 < ((t.Of).length:Int)))=true then
  idx t.Of i1>>=fun x3=>
  Bd known x3>>=fun x4=>
  if (!x4.2)=true then
   some ((A0.mk 0 0 0 0 [] [] []),false)
  else
   if (decide ((of.length+1) * 97≤140737488355328))=true then
    Od known t (of++[x4.1]) (IntKind.i64.wrap (i1+1))
   else none
 else
  some ((A0.mk t.Kind t.Low t.High t.Size t.Name t.Names of),true)
 partial_fixpoint
end
abbrev E11 (known:List B0)(t:A0)(res:A0×Bool):Prop:=K0 C 220 [.d (.sl (B0.rows known)),.agg (A0.cells t)] [] (Ret [] (.tup [.agg (A0.cells res.1),.d (.bool res.2)]))
abbrev C1b (known:List B0)(t:A0)(of:List A0)(i1:Int)(res:A0×Bool):Prop:=LM C 61 0 Tryz.f220 [1,1,1,0,1,4] [(0,.d (.sl (B0.rows known))),(3,.ref 0 0),(4,.ref 1 0),(7,.osl 2 (A0.rows of)),(8,.d (.int .i64 i1))] [.row (A0.cells t) 40,.row [.d (.int .i64 0),.d (.int .i64 0),.d (.int .i64 0),.d (.int .i64 0),.d (.str []),.full (estr.rows []),.full (A0.rows [])] 40,.tok 40 7] (Ret [] (.tup [.agg (A0.cells res.1),.d (.bool res.2)]))
theorem Y1d (known:List B0):(∀ t res,Bd known t=some res→E11 known t res)∧(∀ t of i1 res,Od known t of i1=some res→C1b known t of i1 res):=by
 refine Bd.mutual_partial_correctness known _ _ ?_ ?_
 ·intro g1 ih1 t res hh
  refine K0.intro hC Tryz.func220 rfl rfl rfl (s' rfl rfl (E0.n hC rfl (E0.nf hC rfl (e' rfl (S' (t' rfl (ci' rfl hh (fun hh=>?_) (fun hh=>?_))))))))
  ·exact S' (t' rfl (bk' (fw' (B19 hh) rfl rfl rfl)))
  exact sk' (p' 1 rfl (E0.tokE 7 40 7 rfl (n' (S' (t' rfl (bk' (fw' (ih1 _ _ _ _ hh) rfl rfl rfl)))))))
 ·intro g0 g1 ih0 ih1 t of i1 res hh
  refine W0.unroll (S' (p' 3 rfl (qe' rfl trivial (A0.lenA _) (e' rfl (ci' rfl hh (fun hh=>?_) (fun hh=>?_))))))
  ·obtain ⟨x3,hx3,hh⟩:=bs' hh
   obtain ⟨x4,hx4,hh⟩:=bs' hh
   refine sk' (S' (bk' (p' 4 rfl (i' rfl (U0 hx3) (A0.idx hx3) rfl (q' rfl (c' (ih0 _ _ hx4) rfl rfl (o' 3 rfl (E0.nf hC rfl (E0.s hC rfl (e' rfl (S' (t' rfl (ci' rfl hh (fun hh=>?_) (fun hh=>?_))))))))))))))
   ·cases hh
    exact p' 1 rfl (E0.s hC rfl (e' rfl (re' (rt' rfl rfl rfl))))
   obtain ⟨c7,hh⟩:=I1 hh
   exact sk' (P' 2 rfl (E0.be hC rfl (A0.rows_map [x4.1]).symm (E0.ap hC rfl (rs:=A0.rows (of++[x4.1])) (A0.app of [x4.1]) (A0.sz of) (A0.sz [x4.1]) (E4 (A0.len of) (A0.len [x4.1]) c7) (e' rfl (T' rfl (lw' (ih1 _ _ _ _ hh) rfl rfl rfl))))))
  refine ex' (p' 2 rfl (E0.s hC rfl (n' (p' 1 rfl (E0.s hC rfl (e' rfl (re' ?_)))))))
  obtain rfl:=oi' hh
  exact ⟨_,.tup [.agg [.d (.int .i64 t.Kind),.d (.int .i64 t.Low),.d (.int .i64 t.High),.d (.int .i64 t.Size),.d (.str t.Name),.d (.sl (estr.rows t.Names)),.d (.sl (A0.rows of))],.d (.bool true)],[],rfl,(.tupL ⟨(.aggL ⟨.rfl,.rfl,.rfl,.rfl,.rfl,.rfl,.osl,trivial⟩),.rfl,trivial⟩),trivial,rfl,rfl,rfl,rfl⟩
theorem Z1f {known t res}(hh:Bd known t=some res):E11 known t res:=(Y1d known).1 _ _ hh
mutual
def Ma (t:A0):Option Bool:=
 if (t.Kind == 3)=true then
  Pa t 0
 else
  Pd t
 partial_fixpoint
def Pd (t:A0):Option Bool:=
 Qd t 0
 partial_fixpoint
def Qd (t:A0)(i2:Int):Option Bool:=
 if (decide (i2 < ((t.Of).length:Int)))=true then
  idx t.Of i2>>=fun x3=>
  Ma x3>>=fun x4=>
  if x4=true then
   some true
  else
   Qd t (IntKind.i64.wrap (i2+1))
 else
  some false
 partial_fixpoint
def Pa (t:A0)(i:Int):Option Bool:=
 if (decide (i < ((t.Names).length:Int)))=true then
  Sd t i 0
 else
  Pd t
 partial_fixpoint
def Sd (t:A0)(i1:Int)(k:Int):Option Bool:=
 if (decide (k < i1))=true then
  idx t.Names i1>>=fun x1=>
  idx t.Names k>>=fun x2=>
  if (x1 == x2)=true then
   some true
  else
   Sd t i1 (IntKind.i64.wrap (k+1))
 else
  Pa t (IntKind.i64.wrap (i1+1))
 partial_fixpoint
end
abbrev F11 (t:A0)(res:Bool):Prop:=K0 C 197 [.agg (A0.cells t)] [] (Ret [] (.d (.bool res)))
abbrev D1b (t:A0)(res:Bool):Prop:=JM C 45 0 Tryz.f197 [1,1] [(1,.ref 0 0)] [.row (A0.cells t) 40] (Ret [] (.d (.bool res)))
abbrev E1b (t:A0)(i2:Int)(res:Bool):Prop:=LM C 45 0 Tryz.f197 [1,1,0,1,4] [(1,.ref 0 0),(5,.d (.int .i64 i2))] [.row (A0.cells t) 40] (Ret [] (.d (.bool res)))
abbrev F1b (t:A0)(i:Int)(res:Bool):Prop:=LM C 45 0 Tryz.f197 [1,0,1,2,1,4] [(1,.ref 0 0),(3,.d (.int .i64 i))] [.row (A0.cells t) 40] (Ret [] (.d (.bool res)))
abbrev G1b (t:A0)(i1:Int)(k:Int)(res:Bool):Prop:=LM C 45 0 Tryz.f197 [1,0,1,2,1,4,5,1,0,4,1,4] [(1,.ref 0 0),(3,.d (.int .i64 i1)),(4,.d (.int .i64 k))] [.row (A0.cells t) 40] (Ret [] (.d (.bool res)))
theorem Z1d:(∀ t res,Ma t=some res→F11 t res)∧(∀ t res,Pd t=some res→D1b t res)∧(∀ t i2 res,Qd t i2=some res→E1b t i2 res)∧(∀ t i res,Pa t i=some res→F1b t i res)∧(∀ t i1 k res,Sd t i1 k=some res→G1b t i1 k res):=by
 refine Ma.mutual_partial_correctness _ _ _ _ _ ?_ ?_ ?_ ?_ ?_
 ·intro g1 g3 ih1 ih3 t res hh
  refine K0.intro hC Tryz.func197 rfl rfl rfl (s' rfl rfl (E0.n hC rfl (e' rfl (S' (t' rfl (ci' rfl hh (fun hh=>?_) (fun hh=>?_)))))))
  ·exact t' rfl (bk' (fw' (ih3 _ _ _ hh) rfl rfl rfl))
  exact sk' (ew' (ih1 _ _ hh) rfl rfl rfl)
 ·intro g2 ih2 t res hh
  exact S' (t' rfl (bk' (fw' (ih2 _ _ _ hh) rfl rfl rfl)))
 ·intro g0 g2 ih0 ih2 t i2 res hh
  refine W0.unroll (S' (p' 3 rfl (qe' rfl trivial (A0.lenA _) (e' rfl (ci' rfl hh (fun hh=>?_) (fun hh=>?_))))))
  ·obtain ⟨x3,hx3,hh⟩:=bs' hh
   obtain ⟨x4,hx4,hh⟩:=bs' hh
   refine sk' (S' (bk' (p' 3 rfl (i' rfl (U0 hx3) (A0.idx hx3) rfl (q' rfl (c' (ih0 _ _ hx4) rfl rfl (n' (ci' rfl hh (fun hh=>?_) (fun hh=>?_)))))))))
   ·cases hh
    exact t' rfl (re' (rt' rfl rfl rfl))
   exact sk' (T' rfl (lw' (ih2 _ _ _ hh) rfl rfl rfl))
  cases hh
  exact ex' (t' rfl (re' (rt' rfl rfl rfl)))
 ·intro g1 g4 ih1 ih4 t i res hh
  refine W0.unroll (S' (p' 3 rfl (qe' rfl trivial (estr.lenA _) (e' rfl (ci' rfl hh (fun hh=>?_) (fun hh=>?_))))))
  ·exact sk' (S' (bk' (t' rfl (bk' (fw' (ih4 _ _ _ _ hh) rfl rfl rfl)))))
  exact ex' (ew' (ih1 _ _ hh) rfl rfl rfl)
 ·intro g3 g4 ih3 ih4 t i1 k res hh
  refine W0.unroll (S' (t' rfl (ci' rfl hh (fun hh=>?_) (fun hh=>?_))))
  ·obtain ⟨x1,hx1,hh⟩:=bs' hh
   obtain ⟨x2,hx2,hh⟩:=bs' hh
   refine sk' (S' (bk' (S' (AEx.draw hC 11 rfl rfl rfl (O' 3 rfl (AQ.i hC rfl (U0 hx1) (estr.idx hx1) rfl (O' 4 rfl (AQ.i hC rfl (U0 hx2) (estr.idx hx2) rfl (E' rfl (n' (ci' rfl hh (fun hh=>?_) (fun hh=>?_))))))))))))
   ·cases hh
    exact t' rfl (re' (rt' rfl rfl rfl))
   exact sk' (T' rfl (lw' (ih4 _ _ _ _ hh) rfl rfl rfl))
  exact ex' (T' rfl (lw' (ih3 _ _ _ hh) rfl rfl rfl))
theorem Oz {t res}(hh:Ma t=some res):F11 t res:=(Z1d).1 _ _ hh
mutual
def Jg (t:A0):Option Int:=
 Td t 0 0
 partial_fixpoint
def Td (t:A0)(d:Int)(i:Int):Option Int:=
 if (decide (i < ((t.Of).length:Int)))=true then
  idx t.Of i>>=fun x1=>
  Jg x1>>=fun x2=>
  if (decide (x2 > d))=true then
   Td t x2 (IntKind.i64.wrap (i+1))
  else
   Td t d (IntKind.i64.wrap (i+1))
 else
  some (IntKind.i64.wrap (d+1))
 partial_fixpoint
end
abbrev J17 (t:A0)(res:Int):Prop:=K0 C 221 [.agg (A0.cells t)] [] (Ret [] (.d (.int .i64 res)))
abbrev A1g (t:A0)(d:Int)(i:Int)(res:Int):Prop:=LM C 25 0 Tryz.f221 [1,1,0,1,4] [(1,.ref 0 0),(3,.d (.int .i64 d)),(4,.d (.int .i64 i))] [.row (A0.cells t) 40] (Ret [] (.d (.int .i64 res)))
theorem D1j:(∀ t res,Jg t=some res→J17 t res)∧(∀ t d i res,Td t d i=some res→A1g t d i res):=by
 refine Jg.mutual_partial_correctness _ _ ?_ ?_
 ·intro g1 ih1 t res hh
  exact K0.intro hC Tryz.func221 rfl rfl rfl (s' rfl rfl (E0.n hC rfl (e' rfl (t' rfl (S' (t' rfl (bk' (fw' (ih1 _ _ _ _ hh) rfl rfl rfl))))))))
 ·intro g0 g1 ih0 ih1 t d i res hh
  refine W0.unroll (S' (p' 3 rfl (qe' rfl trivial (A0.lenA _) (e' rfl (ci' rfl hh (fun hh=>?_) (fun hh=>?_))))))
  ·obtain ⟨x1,hx1,hh⟩:=bs' hh
   obtain ⟨x2,hx2,hh⟩:=bs' hh
   refine sk' (S' (bk' (p' 3 rfl (i' rfl (U0 hx1) (A0.idx hx1) rfl (q' rfl (c' (ih0 _ _ hx2) rfl rfl (e' rfl (t' rfl (ci' rfl hh (fun hh=>?_) (fun hh=>?_))))))))))
   ·exact T' rfl (T' rfl (lw' (ih1 _ _ _ _ hh) rfl rfl rfl))
   exact sk' (T' rfl (lw' (ih1 _ _ _ _ hh) rfl rfl rfl))
  cases hh
  exact ex' (t' rfl (re' (rt' rfl rfl rfl)))
theorem N1l {t res}(hh:Jg t=some res):J17 t res:=(D1j).1 _ _ hh
mutual
def Sb (t:A0):Option Int:=
 if (t.Kind == 2)=true then
  idx t.Of 0>>=fun x1=>
  Sb x1>>=fun x3=>
  Rg t (IntKind.i64.wrap (t.Size * x3))
 else
  Rg t 1
 partial_fixpoint
def Rg (t:A0)(n:Int):Option Int:=
 if (t.Kind == 3)=true then
  Sg t 0 0
 else
  if (decide (n > 32))=true then
   some 33
  else
   some n
 partial_fixpoint
def Sg (t:A0)(n1:Int)(i:Int):Option Int:=
 if (decide (i < ((t.Of).length:Int)))=true then
  idx t.Of i>>=fun x2=>
  Sb x2>>=fun x4=>
  Sg t (IntKind.i64.wrap (n1+x4)) (IntKind.i64.wrap (i+1))
 else
  if (decide (n1 > 32))=true then
   some 33
  else
   some n1
 partial_fixpoint
end
abbrev K17 (t:A0)(res:Int):Prop:=K0 C 198 [.agg (A0.cells t)] [] (Ret [] (.d (.int .i64 res)))
abbrev B1g (t:A0)(n:Int)(res:Int):Prop:=JM C 37 0 Tryz.f198 [1,1,1] [(1,.ref 0 0),(3,.d (.int .i64 n))] [.row (A0.cells t) 40] (Ret [] (.d (.int .i64 res)))
abbrev C1g (t:A0)(n1:Int)(i:Int)(res:Int):Prop:=LM C 37 0 Tryz.f198 [1,1,1,0,1,2,1,1,4] [(1,.ref 0 0),(3,.d (.int .i64 n1)),(4,.d (.int .i64 i))] [.row (A0.cells t) 40] (Ret [] (.d (.int .i64 res)))
theorem E1j:(∀ t res,Sb t=some res→K17 t res)∧(∀ t n res,Rg t n=some res→B1g t n res)∧(∀ t n1 i res,Sg t n1 i=some res→C1g t n1 i res):=by
 refine Sb.mutual_partial_correctness _ _ _ ?_ ?_ ?_
 ·intro g0 g1 ih0 ih1 t res hh
  refine K0.intro hC Tryz.func198 rfl rfl rfl (s' rfl rfl (E0.n hC rfl (e' rfl (t' rfl (S' (t' rfl (ci' rfl hh (fun hh=>?_) (fun hh=>?_))))))))
  ·obtain ⟨x1,hx1,hh⟩:=bs' hh
   obtain ⟨x3,hx3,hh⟩:=bs' hh
   exact AEx.draw hC 9 rfl rfl rfl (O' 4 rfl (AQ.i hC rfl (U0 hx1) (A0.idx hx1) rfl (Q' rfl (Qc' (ih0 _ _ hx3) rfl rfl (E' rfl (n' (ew' (ih1 _ _ _ hh) rfl rfl rfl)))))))
  exact sk' (ew' (ih1 _ _ _ hh) rfl rfl rfl)
 ·intro g2 ih2 t n res hh
  refine S' (t' rfl (ci' rfl hh (fun hh=>?_) (fun hh=>?_)))
  ·exact t' rfl (t' rfl (bk' (fw' (ih2 _ _ _ _ hh) rfl rfl rfl)))
  refine sk' (S' (t' rfl (ci' rfl hh (fun hh=>?_) (fun hh=>?_))))
  ·cases hh
   exact t' rfl (re' (rt' rfl rfl rfl))
  cases hh
  exact sk' (t' rfl (re' (rt' rfl rfl rfl)))
 ·intro g0 g2 ih0 ih2 t n1 i res hh
  refine W0.unroll (S' (p' 3 rfl (qe' rfl trivial (A0.lenA _) (e' rfl (ci' rfl hh (fun hh=>?_) (fun hh=>?_))))))
  ·obtain ⟨x2,hx2,hh⟩:=bs' hh
   obtain ⟨x4,hx4,hh⟩:=bs' hh
   exact sk' (S' (bk' (P' 4 rfl (i' rfl (U0 hx2) (A0.idx hx2) rfl (q' rfl (c' (ih0 _ _ hx4) rfl rfl (e' rfl (T' rfl (lw' (ih2 _ _ _ _ hh) rfl rfl rfl)))))))))
  refine ex' (S' (t' rfl (ci' rfl hh (fun hh=>?_) (fun hh=>?_))))
  ·cases hh
   exact t' rfl (re' (rt' rfl rfl rfl))
  cases hh
  exact sk' (t' rfl (re' (rt' rfl rfl rfl)))
theorem F14 {t res}(hh:Sb t=some res):K17 t res:=(E1j).1 _ _ hh
def Fh (known:List B0)(t:A0):Option (A0×Int):=
 Bf t>>=fun x1=>
 if (x1 != 0)=true then
  some ((A0.mk 0 0 0 0 [] [] []),x1)
 else
  Bd known t>>=fun x2=>
  if (!x2.2)=true then
   some ((A0.mk 0 0 0 0 [] [] []),7)
  else
   Ma x2.1>>=fun x3=>
   if x3=true then
    some ((A0.mk 0 0 0 0 [] [] []),8)
   else
    Jg x2.1>>=fun x4=>
    (if (!(decide (x4 > 12)))=true then Sb x2.1 else some default)>>=fun x5=>
    if (bif (decide (x4 > 12)) then true else (decide (x5 > 32)))=true then
     some ((A0.mk 0 0 0 0 [] [] []),4)
    else
     some (x2.1,0)
theorem G11 {known t res}(hh:Fh known t=some res):K0 C 193 [.d (.sl (B0.rows known)),.agg (A0.cells t)] [] (Ret [] (.tup [.agg (A0.cells res.1),.d (.int .i64 res.2)])):=by
 unfold Fh at hh
 obtain ⟨x1,hx1,hh⟩:=bs' hh
 refine K0.intro hC Tryz.func193 rfl rfl rfl (s' rfl rfl (E0.n hC rfl (E0.nf hC rfl (e' rfl (p' 1 rfl (c' (Wv hx1) rfl rfl (e' rfl (S' (t' rfl (ci' rfl hh (fun hh=>?_) (fun hh=>?_)))))))))))
 ·cases hh
  exact p' 2 rfl (E0.s hC rfl (e' rfl (re' (rt' rfl rfl rfl))))
 obtain ⟨x2,hx2,hh⟩:=bs' hh
 refine sk' (p' 2 rfl (c' (Z1f hx2) rfl rfl (o' 3 rfl (E0.nf hC rfl (E0.s hC rfl (e' rfl (S' (t' rfl (ci' rfl hh (fun hh=>?_) (fun hh=>?_))))))))))
 ·cases hh
  exact p' 1 rfl (E0.s hC rfl (e' rfl (re' (rt' rfl rfl rfl))))
 obtain ⟨x3,hx3,hh⟩:=bs' hh
 refine sk' (S' (p' 1 rfl (c' (Oz hx3) rfl rfl (n' (ci' rfl hh (fun hh=>?_) (fun hh=>?_))))))
 ·cases hh
  exact p' 1 rfl (E0.s hC rfl (e' rfl (re' (rt' rfl rfl rfl))))
 obtain ⟨x4,hx4,hh⟩:=bs' hh
 obtain ⟨x5,hx5,hh⟩:=bs' hh
 refine sk' (S' (sg' 8 rfl (a0' rfl (AG.c rfl rfl (fun _=>trivial) (fun _=>N1l hx4) (G' 3 rfl (AG.c rfl rfl (fun hg=>⟨hg,trivial⟩) (fun hw=>F14 (G1 hw hx5)) (a1' rfl (po' rfl (an' (n' (ci' rfl hh (fun hh=>?_) (fun hh=>?_))))))))))))
 ·cases hh
  exact p' 1 rfl (E0.s hC rfl (e' rfl (re' (rt' rfl rfl rfl))))
 cases hh
 exact sk' (p' 1 rfl (E0.s hC rfl (e' rfl (re' (rt' rfl rfl rfl)))))
mutual
def X5 (decls:List B0)(known:List B0)(i:Int):Option (List B0×Int):=
 if (decide (i < ((decls).length:Int)))=true then
  idx decls i>>=fun x1=>
  if (x1.Kind != 0)=true then
   X5 decls known (IntKind.i64.wrap (i+1))
  else
   Ia x1.Name>>=fun x2=>
   if (!x2)=true then
    some ([],7)
   else
    Tg decls x1 known i 0
 else
  some (known,0)
 partial_fixpoint
def Tg (decls:List B0)(x1:B0)(known1:List B0)(i:Int)(k:Int):Option (List B0×Int):=
 if (decide (k < ((known1).length:Int)))=true then
  idx known1 k>>=fun x4=>
  if (x4.Name == x1.Name)=true then
   some ([],8)
  else
   Tg decls x1 known1 i (IntKind.i64.wrap (k+1))
 else
  Fh known1 x1.TypeV>>=fun x3=>
  if (x3.2 != 0)=true then
   some ([],x3.2)
  else
   if (decide ((known1.length+1) * 257≤140737488355328))=true then
    X5 decls (known1++[(B0.mk 0 x1.Name x3.1 0 (D0.mk 0 0 [] []) [] [] [])]) (IntKind.i64.wrap (i+1))
   else none
 partial_fixpoint
end
abbrev Pz (decls:List B0)(known:List B0)(i:Int)(res:List B0×Int):Prop:=LM C 59 0 Tryz.f192 [1,1,0,1,4] [(0,.d (.sl (B0.rows decls))),(4,.osl 0 (B0.rows known)),(5,.d (.int .i64 i))] [.tok 59 17] (Ret [] (.tup [.d (.sl (B0.rows res.1)),.d (.int .i64 res.2)]))
abbrev D1g (decls:List B0)(x1:B0)(known1:List B0)(i:Int)(k:Int)(res:List B0×Int):Prop:=LM C 59 0 Tryz.f192 [1,1,0,1,4,5,1,0,4,1,1,1,0,1,4] [(0,.d (.sl (B0.rows decls))),(4,.osl 0 (B0.rows known1)),(5,.d (.int .i64 i)),(6,.ref 1 0),(7,.d (.int .i64 k))] [.tok 59 17,.row (B0.cells x1) 59] (Ret [] (.tup [.d (.sl (B0.rows res.1)),.d (.int .i64 res.2)]))
theorem H1b (decls:List B0):(∀ known i res,X5 decls known i=some res→Pz decls known i res)∧(∀ x1 known1 i k res,Tg decls x1 known1 i k=some res→D1g decls x1 known1 i k res):=by
 refine X5.mutual_partial_correctness decls _ _ ?_ ?_
 ·intro g0 g1 ih0 ih1 known i res hh
  refine W0.unroll (S' (p' 2 rfl (qe' rfl trivial (B0.lenA _) (e' rfl (ci' rfl hh (fun hh=>?_) (fun hh=>?_))))))
  ·obtain ⟨x1,hx1,hh⟩:=bs' hh
   refine sk' (S' (bk' (p' 2 rfl (i' rfl (U0 hx1) (B0.idx hx1) rfl (q' rfl (E0.nf hC rfl (E0.s hC rfl (n' (S' (t' rfl (ci' rfl hh (fun hh=>?_) (fun hh=>?_))))))))))))
   ·exact ex' (T' rfl (lw' (ih0 _ _ _ hh) rfl rfl rfl))
   obtain ⟨x2,hx2,hh⟩:=bs' hh
   refine sk' (S' (p' 2 rfl (c' (Af hx2) rfl rfl (e' rfl (ci' rfl hh (fun hh=>?_) (fun hh=>?_))))))
   ·refine t' rfl (re' ?_)
    obtain rfl:=oi' hh
    exact ⟨_,.tup [.d (.sl (B0.rows [])),.d (.int .i64 7)],[],rfl,(.tupL ⟨.full,.rfl,trivial⟩),trivial,rfl,rfl,rfl,rfl⟩
   exact sk' (S' (t' rfl (bk' (fw' (ih1 _ _ _ _ _ hh) rfl rfl rfl))))
  refine ex' (t' rfl (re' ?_))
  obtain rfl:=oi' hh
  exact ⟨_,.tup [.d (.sl (B0.rows known)),.d (.int .i64 0)],[],rfl,(.tupL ⟨.osl,.rfl,trivial⟩),trivial,rfl,rfl,rfl,rfl⟩
 ·intro g0 g1 ih0 ih1 x1 known1 i k res hh
  refine W0.unroll (S' (p' 2 rfl (qe' rfl trivial (B0.lenA _) (e' rfl (ci' rfl hh (fun hh=>?_) (fun hh=>?_))))))
  ·obtain ⟨x4,hx4,hh⟩:=bs' hh
   refine sk' (S' (bk' (S' (AEx.draw hC 8 rfl rfl rfl (O' 2 rfl (AQ.i hC rfl (U0 hx4) (B0.idx hx4) rfl (E' rfl (n' (ci' rfl hh (fun hh=>?_) (fun hh=>?_))))))))))
   ·refine t' rfl (re' ?_)
    obtain rfl:=oi' hh
    exact ⟨_,.tup [.d (.sl (B0.rows [])),.d (.int .i64 8)],[],rfl,(.tupL ⟨.full,.rfl,trivial⟩),trivial,rfl,rfl,rfl,rfl⟩
   exact sk' (T' rfl (lw' (ih1 _ _ _ _ _ hh) rfl rfl rfl))
  obtain ⟨x3,hx3,hh⟩:=bs' hh
  refine ex' (p' 3 rfl (E0.cl rfl (G11 hx3) ⟨.osl,.rfl,trivial⟩ rfl (o' 3 rfl (E0.nf hC rfl (E0.s hC rfl (e' rfl (S' (t' rfl (ci' rfl hh (fun hh=>?_) (fun hh=>?_))))))))))
  ·refine t' rfl (re' ?_)
   obtain rfl:=oi' hh
   exact ⟨_,.tup [.d (.sl (B0.rows [])),.d (.int .i64 x3.2)],[],rfl,(.tupL ⟨.full,.rfl,trivial⟩),trivial,rfl,rfl,rfl,rfl⟩
  obtain ⟨c8,hh⟩:=I1 hh
  refine sk' (P' 5 rfl (E0.be hC rfl (B0.rows_map [(B0.mk 0 x1.Name x3.1 0 (D0.mk 0 0 [] []) [] [] [])]).symm ?_))
  refine E0.ap hC rfl (rs:=B0.rows (known1++[(B0.mk 0 x1.Name x3.1 0 (D0.mk 0 0 [] []) [] [] [])])) (B0.app known1 [(B0.mk 0 x1.Name x3.1 0 (D0.mk 0 0 [] []) [] [] [])]) (B0.sz known1) (B0.sz [(B0.mk 0 x1.Name x3.1 0 (D0.mk 0 0 [] []) [] [] [])]) (E4 (B0.len known1) (B0.len [(B0.mk 0 x1.Name x3.1 0 (D0.mk 0 0 [] []) [] [] [])]) c8) ?_
  exact e' rfl (T' rfl (lw' (ih0 _ _ _ hh) rfl rfl rfl))
theorem A1e {decls known i res}(hh:X5 decls known i=some res):Pz decls known i res:=(H1b decls).1 _ _ _ hh
def Wu (decls:List B0):Option (List B0×Int):=
 X5 decls [] 0
theorem O1l {decls res}(hh:Wu decls=some res):K0 C 192 [.d (.sl (B0.rows decls))] [] (Ret [] (.tup [.d (.sl (B0.rows res.1)),.d (.int .i64 res.2)])):=by
 unfold Wu at hh
 exact K0.intro hC Tryz.func192 rfl rfl rfl (t' rfl (p' 1 rfl (E0.tokE 4 59 17 rfl (n' (S' (t' rfl (bk' (fw' (A1e hh) rfl rfl rfl))))))))
def Rn (decls:List B0)(t:A0):Option (A0×Int):=
 Wu decls>>=fun x1=>
 if (x1.2 != 0)=true then
  some ((A0.mk 0 0 0 0 [] [] []),x1.2)
 else
  Fh x1.1 t>>=fun x2=>
  some (x2.1,x2.2)
theorem F1j {decls t res}(hh:Rn decls t=some res):K0 C 137 [.d (.sl (B0.rows decls)),.agg (A0.cells t)] [] (Ret [] (.tup [.agg (A0.cells res.1),.d (.int .i64 res.2)])):=by
 unfold Rn at hh
 obtain ⟨x1,hx1,hh⟩:=bs' hh
 refine K0.intro hC Tryz.func137 rfl rfl rfl (s' rfl rfl (E0.n hC rfl (E0.nf hC rfl (e' rfl (p' 1 rfl (c' (O1l hx1) rfl rfl (e' rfl (S' (t' rfl (ci' rfl hh (fun hh=>?_) (fun hh=>?_)))))))))))
 ·cases hh
  exact p' 2 rfl (E0.s hC rfl (e' rfl (re' (rt' rfl rfl rfl))))
 obtain ⟨x2,hx2,hh⟩:=bs' hh
 cases hh
 exact sk' (p' 2 rfl (c' (G11 hx2) rfl rfl (o' 2 rfl (E0.s hC rfl (e' rfl (re' (rt' rfl rfl rfl)))))))
def T8 (p:I0)(i:Int)(t:A0):Option (A0×Int):=
 slc p.Decls 0 i>>=fun x1=>
 Rn x1 t>>=fun x2=>
 some (x2.1,x2.2)
theorem Ec {p i t res}(hh:T8 p i t=some res):K0 C 74 [.agg (I0.cells p),.d (.int .i64 i),.agg (A0.cells t)] [] (Ret [] (.tup [.agg (A0.cells res.1),.d (.int .i64 res.2)])):=by
 unfold T8 at hh
 obtain ⟨x1,hx1,hh⟩:=bs' hh
 obtain ⟨x2,hx2,hh⟩:=bs' hh
 cases hh
 refine K0.intro hC Tryz.func74 rfl rfl rfl (s' rfl rfl (E0.n hC rfl (E0.n hC rfl (E0.nf hC rfl (e' rfl (S' (AEx.draw hC 8 rfl rfl rfl (O' 3 rfl (AQ.dx hC rfl (B0.part hx1) (B0.sz _) (Q' rfl (Qc' (F1j hx2) rfl rfl (E' rfl (E0.s hC rfl ?_)))))))))))))
 exact e' rfl (re' (rt' rfl rfl rfl))
def X6 (t:A0):Option Bool:=
 some (bif (t.Kind == 0) then true else (t.Kind == 1))
theorem Si {t res}(hh:X6 t=some res):K0 C 75 [.agg (A0.cells t)] [] (Ret [] (.d (.bool res))):=by
 unfold X6 at hh
 cases hh
 exact K0.intro hC Tryz.func75 rfl rfl rfl (s' rfl rfl (E0.n hC rfl (e' rfl (sg' 9 rfl (G' 5 rfl (a1' rfl (a1' rfl (po' rfl (a0' rfl (an' (n' (re' (rt' rfl rfl rfl)))))))))))))
def Jf (d:B0):Option Bool:=
 some (bif (bif (d.Kind == 1) then true else (d.Kind == 2)) then true else (d.Kind == 3))
theorem Oq {d res}(hh:Jf d=some res):K0 C 80 [.agg (B0.cells d)] [] (Ret [] (.d (.bool res))):=by
 unfold Jf at hh
 cases hh
 refine K0.intro hC Tryz.func80 rfl rfl rfl (s' rfl rfl (E0.n hC rfl (e' rfl (sg' 14 rfl (G' 5 rfl (a1' rfl (a1' rfl (po' rfl (G' 2 rfl (a1' rfl (a1' rfl (po' rfl (a0' rfl ?_)))))))))))))
 exact an' (n' (re' (rt' rfl rfl rfl)))
def V6 (p:I0)(n:Int)(locals:Bool)(out:List J0)(i:Int):Option (List J0):=
 if (decide (i < n))=true then
  idx p.Decls i>>=fun x1=>
  Jf x1>>=fun x2=>
  if (bif x2 then true else (bif locals then (x1.Kind == 4) else false))=true then
   T8 p i x1.TypeV>>=fun x3=>
   Jf x1>>=fun x4=>
   if (decide ((out.length+1) * 121≤140737488355328))=true then
    V6 p n locals (out++[(J0.mk x1.Name x3.1 x4)]) (IntKind.i64.wrap (i+1))
   else none
  else
   V6 p n locals out (IntKind.i64.wrap (i+1))
 else
  some out
 partial_fixpoint
abbrev Yv (p:I0)(n:Int)(locals:Bool)(out:List J0)(i:Int)(res:List J0):Prop:=LM C 51 0 Tryz.f77 [1,1,0,1,4] [(1,.d (.int .i64 n)),(2,.d (.bool locals)),(3,.ref 0 0),(7,.osl 1 (J0.rows out)),(8,.d (.int .i64 i))] [.row (I0.cells p) 25,.tok 146 9] (Ret [] (.d (.sl (J0.rows res))))
theorem L16 (p:I0)(n:Int)(locals:Bool):(∀ out i res,V6 p n locals out i=some res→Yv p n locals out i res):=by
 refine V6.partial_correctness p n locals _ ?_
 ·intro g0 ih0 out i res hh
  refine W0.unroll (S' (t' rfl (ci' rfl hh (fun hh=>?_) (fun hh=>?_))))
  ·obtain ⟨x1,hx1,hh⟩:=bs' hh
   obtain ⟨x2,hx2,hh⟩:=bs' hh
   refine sk' (S' (bk' (p' 3 rfl (i' rfl (U0 hx1) (B0.idx hx1) rfl (q' rfl (E0.nf hC rfl (E0.s hC rfl (n' (sg' 10 rfl (a0' rfl (AG.c rfl rfl (fun _=>trivial) (fun _=>Oq hx2) (G' 2 rfl (a1' rfl ?_)))))))))))))
   refine a0' rfl (a1' rfl (a1' rfl (pA' rfl (po' rfl (an' (n' (ci' rfl hh (fun hh=>?_) (fun hh=>?_))))))))
   ·obtain ⟨x3,hx3,hh⟩:=bs' hh
    obtain ⟨x4,hx4,hh⟩:=bs' hh
    obtain ⟨c8,hh⟩:=I1 hh
    refine p' 4 rfl (c' (Ec hx3) rfl rfl (o' 3 rfl (E0.nf hC rfl (E0.s hC rfl (e' rfl (AEx.draw hC 8 rfl rfl rfl (O' 5 rfl (Qc' (Oq hx4) rfl rfl (Q' rfl (AQ.be hC rfl (J0.rows_map [(J0.mk x1.Name x3.1 x4)]).symm (Qn' ?_)))))))))))
    exact E0.ap hC rfl (rs:=J0.rows (out++[(J0.mk x1.Name x3.1 x4)])) (J0.app out [(J0.mk x1.Name x3.1 x4)]) (J0.sz out) (J0.sz [(J0.mk x1.Name x3.1 x4)]) (E4 (J0.len out) (J0.len [(J0.mk x1.Name x3.1 x4)]) c8) (e' rfl (T' rfl (lw' (ih0 _ _ _ hh) rfl rfl rfl)))
   exact sk' (T' rfl (lw' (ih0 _ _ _ hh) rfl rfl rfl))
  refine ex' (t' rfl (re' ?_))
  obtain rfl:=oi' hh
  exact ⟨_,.d (.sl (J0.rows out)),[],rfl,.osl,trivial,rfl,rfl,rfl,rfl⟩
theorem C19 {p n locals out i res}(hh:V6 p n locals out i=some res):Yv p n locals out i res:=(L16 p n locals) _ _ _ hh
def Zl (p:I0)(n:Int)(locals:Bool):Option (List J0):=
 V6 p n locals [] 0
theorem Qz {p n locals res}(hh:Zl p n locals=some res):K0 C 77 [.agg (I0.cells p),.d (.int .i64 n),.d (.bool locals)] [] (Ret [] (.d (.sl (J0.rows res)))):=by
 unfold Zl at hh
 exact K0.intro hC Tryz.func77 rfl rfl rfl (s' rfl rfl (E0.n hC rfl (e' rfl (s' rfl rfl (E0.be hC rfl (J0.rows_map []).symm (E0.tokE 12 146 9 rfl (e' rfl (S' (t' rfl (bk' (fw' (C19 hh) rfl rfl rfl)))))))))))
end Go.Proofs.YtdkabnfphmmmnaaGreatDoor

set_option maxRecDepth 100000
set_option maxHeartbeats 4000000
set_option synthInstance.maxSize 20000
set_option linter.unusedVariables false
namespace Go.Proofs.YtdkabnfphmmmnaaGreatDoor
open Go.Am
def A4 (low:Int)(high:Int):Option A0:=
 some (A0.mk 1 low high 0 [] [] [])
theorem Y5 {low high res}(hh:A4 low high=some res):K0 C 94 [.d (.int .i64 low),.d (.int .i64 high)] [] (Ret [] (.agg (A0.cells res))):=by
 unfold A4 at hh
 cases hh
 exact K0.intro hC Tryz.func94 rfl rfl rfl (s' rfl rfl (E0.nf hC rfl (n' (p' 3 rfl (E0.s hC rfl (n' (re' (rt' rfl rfl rfl))))))))
def Cd (s:T0)(name:Str)(i:Int):Option (J0×Bool):=
 if (decide (i≥0))=true then
  idx s.Vars i>>=fun x1=>
  if (x1.Name == name)=true then
   idx s.Vars i>>=fun x2=>
   some (x2,true)
  else
   Cd s name (IntKind.i64.wrap (i - 1))
 else
  some ((J0.mk [] (A0.mk 0 0 0 0 [] [] []) false),false)
 partial_fixpoint
abbrev H11 (s:T0)(name:Str)(i:Int)(res:J0×Bool):Prop:=LM C 29 0 Tryz.f95 [1,0,1,4] [(1,.d (.str name)),(2,.ref 0 0),(4,.ref 1 0),(6,.d (.int .i64 i))] [.row (T0.cells s) 78,.row [.d (.str []),.d (.int .i64 0),.d (.int .i64 0),.d (.int .i64 0),.d (.int .i64 0),.d (.str []),.full (estr.rows []),.full (A0.rows []),.d (.bool false)] 146] (Ret [] (.tup [.agg (J0.cells res.1),.d (.bool res.2)]))
theorem B1e (s:T0)(name:Str):(∀ i res,Cd s name i=some res→H11 s name i res):=by
 refine Cd.partial_correctness s name _ ?_
 ·intro g0 ih0 i res hh
  refine W0.unroll (S' (t' rfl (ci' rfl hh (fun hh=>?_) (fun hh=>?_))))
  ·obtain ⟨x1,hx1,hh⟩:=bs' hh
   refine sk' (S' (bk' (p' 3 rfl (i' rfl (U0 hx1) (J0.idx hx1) rfl (e' rfl (ci' rfl hh (fun hh=>?_) (fun hh=>?_)))))))
   ·obtain ⟨x2,hx2,hh⟩:=bs' hh
    cases hh
    exact p' 3 rfl (i' rfl (U0 hx2) (J0.idx hx2) rfl (q' rfl (E0.s hC rfl (e' rfl (re' (rt' rfl rfl rfl))))))
   exact sk' (T' rfl (lw' (ih0 _ _ hh) rfl rfl rfl))
  cases hh
  exact ex' (p' 1 rfl (E0.s hC rfl (e' rfl (re' (rt' rfl rfl rfl)))))
theorem E1g {s name i res}(hh:Cd s name i=some res):H11 s name i res:=(B1e s name) _ _ hh
def Ag (s:T0)(name:Str):Option (J0×Bool):=
 Cd s name (IntKind.i64.wrap (((s.Vars).length:Int) - 1))
theorem L17 {s name res}(hh:Ag s name=some res):K0 C 95 [.agg (T0.cells s),.d (.str name)] [] (Ret [] (.tup [.agg (J0.cells res.1),.d (.bool res.2)])):=by
 unfold Ag at hh
 exact K0.intro hC Tryz.func95 rfl rfl rfl (s' rfl rfl (E0.n hC rfl (E0.nf hC rfl (e' rfl (S' (p' 2 rfl (qe' rfl trivial (J0.lenA _) (e' rfl (bk' (fw' (E1g hh) rfl rfl rfl))))))))))
def W8 (e:D0)(k:List A0)(i1:Int):Option (A0×Int):=
 idx k 0>>=fun x10=>
 if (decide (i1 < ((x10.Names).length:Int)))=true then
  idx k 0>>=fun x11=>
  idx x11.Names i1>>=fun x12=>
  if (x12 == e.Name)=true then
   idx k 0>>=fun x13=>
   idx x13.Of i1>>=fun x14=>
   some (x14,0)
  else
   W8 e k (IntKind.i64.wrap (i1+1))
 else
  some ((A0.mk 0 0 0 0 [] [] []),7)
 partial_fixpoint
abbrev I11 (e:D0)(k:List A0)(i1:Int)(res:A0×Int):Prop:=LM C 135 0 Tryz.f44 [1,1,1,1,1,1,0,1,2,1,0,1,4] [(3,.ref 1 0),(4,.ref 2 0),(6,.osl 3 (A0.rows k)),(12,.d (.int .i64 i1))] [.dead,.row (D0.cells e) 34,.row [.d (.int .i64 0),.d (.int .i64 0),.d (.int .i64 0),.d (.int .i64 0),.d (.str []),.full (estr.rows []),.full (A0.rows [])] 40,.tok 40 7] (Ret [] (.tup [.agg (A0.cells res.1),.d (.int .i64 res.2)]))
theorem C1e (e:D0)(k:List A0):(∀ i1 res,W8 e k i1=some res→I11 e k i1 res):=by
 refine W8.partial_correctness e k _ ?_
 ·intro g0 ih0 i1 res hh
  obtain ⟨x10,hx10,hh⟩:=bs' hh
  refine W0.unroll (S' (p' 2 rfl (i' rfl (U0 hx10) (A0.idx hx10) rfl (o' 2 rfl (qe' rfl trivial (estr.lenA _) (e' rfl (ci' rfl hh (fun hh=>?_) (fun hh=>?_))))))))
  ·obtain ⟨x11,hx11,hh⟩:=bs' hh
   obtain ⟨x12,hx12,hh⟩:=bs' hh
   refine sk' (S' (bk' (S' (AEx.draw hC 10 rfl rfl rfl (Q' rfl (AQ.i hC rfl (U0 hx11) (A0.idx hx11) rfl (O' 3 rfl (AQ.i hC rfl (U0 hx12) (estr.idx hx12) rfl (E' rfl (n' (ci' rfl hh (fun hh=>?_) (fun hh=>?_))))))))))))
   ·obtain ⟨x13,hx13,hh⟩:=bs' hh
    obtain ⟨x14,hx14,hh⟩:=bs' hh
    cases hh
    exact p' 1 rfl (i' rfl (U0 hx13) (A0.idx hx13) rfl (o' 3 rfl (i' rfl (U0 hx14) (A0.idx hx14) rfl (q' rfl (E0.s hC rfl (e' rfl (re' (rt' rfl rfl rfl))))))))
   refine sk' (T' rfl ?_)
   refine W0.wk ?_ (ih0 _ _ hh)
   exact ⟨⟨⟨.rfl,rfl⟩,⟨.rfl,rfl⟩,⟨.rfl,rfl⟩,⟨.rfl,rfl⟩,trivial⟩,⟨trivial,⟨rfl,.refl _,rfl⟩,⟨rfl,.refl _,rfl⟩,rfl,trivial⟩,rfl⟩
  cases hh
  exact ex' (p' 1 rfl (E0.s hC rfl (e' rfl (re' (rt' rfl rfl rfl)))))
theorem F1g {e k i1 res}(hh:W8 e k i1=some res):I11 e k i1 res:=(C1e e k) _ _ hh
def B4 (a:Int)(b:Int):Option Int:=
 if (decide (a < b))=true then
  some a
 else
  some b
theorem A5 {a b res}(hh:B4 a b=some res):K0 C 82 [.d (.int .i64 a),.d (.int .i64 b)] [] (Ret [] (.d (.int .i64 res))):=by
 unfold B4 at hh
 refine K0.intro hC Tryz.func82 rfl rfl rfl (t' rfl (S' (t' rfl (ci' rfl hh (fun hh=>?_) (fun hh=>?_)))))
 ·cases hh
  exact t' rfl (re' (rt' rfl rfl rfl))
 cases hh
 exact sk' (t' rfl (re' (rt' rfl rfl rfl)))
def Y3 (a:Int)(b:Int):Option Int:=
 if (decide (a > b))=true then
  some a
 else
  some b
theorem M7 {a b res}(hh:Y3 a b=some res):K0 C 161 [.d (.int .i64 a),.d (.int .i64 b)] [] (Ret [] (.d (.int .i64 res))):=by
 unfold Y3 at hh
 refine K0.intro hC Tryz.func161 rfl rfl rfl (t' rfl (S' (t' rfl (ci' rfl hh (fun hh=>?_) (fun hh=>?_)))))
 ·cases hh
  exact t' rfl (re' (rt' rfl rfl rfl))
 cases hh
 exact sk' (t' rfl (re' (rt' rfl rfl rfl)))
def Kf (t:A0):Option (A0×Int):=
 if (bif (decide (t.Low < (-1048576))) then true else (decide (t.High > 1048576)))=true then
  some ((A0.mk 0 0 0 0 [] [] []),3)
 else
  some (t,0)
theorem Rz {t res}(hh:Kf t=some res):K0 C 162 [.agg (A0.cells t)] [] (Ret [] (.tup [.agg (A0.cells res.1),.d (.int .i64 res.2)])):=by
 unfold Kf at hh
 refine K0.intro hC Tryz.func162 rfl rfl rfl (s' rfl rfl (E0.n hC rfl (E0.nf hC rfl (e' rfl (S' (sg' 8 rfl (G' 5 rfl (a1' rfl (a1' rfl (po' rfl (an' (n' (ci' rfl hh (fun hh=>?_) (fun hh=>?_))))))))))))))
 ·cases hh
  exact p' 1 rfl (E0.s hC rfl (e' rfl (re' (rt' rfl rfl rfl))))
 cases hh
 exact sk' (p' 1 rfl (E0.s hC rfl (e' rfl (re' (rt' rfl rfl rfl)))))
def Wm (t:A0):Option Int:=
 Y3 t.High (IntKind.i64.wrap (0 - t.Low))>>=fun x1=>
 some x1
theorem I1b {t res}(hh:Wm t=some res):K0 C 201 [.agg (A0.cells t)] [] (Ret [] (.d (.int .i64 res))):=by
 unfold Wm at hh
 obtain ⟨x1,hx1,hh⟩:=bs' hh
 cases hh
 exact K0.intro hC Tryz.func201 rfl rfl rfl (s' rfl rfl (E0.n hC rfl (e' rfl (p' 5 rfl (c' (M7 hx1) rfl rfl (e' rfl (re' (rt' rfl rfl rfl))))))))
def Ti (low:Int)(high:Int):Option A0:=
 A4 low high>>=fun x6=>
 some x6
theorem Zv {low high res}(hh:Ti low high=some res):JM C 77 0 Tryz.f163 [1,1,0,1,2,1,1,1,1] [(6,.ref 2 0),(8,.d (.int .i64 low)),(9,.d (.int .i64 high))] [.dead,.dead,.row [.d (.int .i64 0),.d (.int .i64 0),.d (.int .i64 0),.d (.int .i64 0),.d (.str []),.full (estr.rows []),.full (A0.rows [])] 40] (Ret [] (.agg (A0.cells res))):=by
 unfold Ti at hh
 obtain ⟨x6,hx6,hh⟩:=bs' hh
 cases hh
 exact p' 2 rfl (c' (Y5 hx6) rfl rfl (E0.s hC rfl (n' (re' (rt' rfl rfl rfl)))))
def Ui (b:A0)(low:Int):Option A0:=
 if (decide (b.High > 0))=true then
  Y3 (IntKind.i64.wrap (b.High - 1)) 0>>=fun x5=>
  Ti low x5
 else
  Ti low 0
theorem Aw {b low res}(hh:Ui b low=some res):JM C 77 0 Tryz.f163 [1,1,0,1,2,1,1,1] [(5,.ref 1 0),(6,.ref 2 0),(8,.d (.int .i64 low)),(9,.d (.int .i64 0))] [.dead,.row (A0.cells b) 40,.row [.d (.int .i64 0),.d (.int .i64 0),.d (.int .i64 0),.d (.int .i64 0),.d (.str []),.full (estr.rows []),.full (A0.rows [])] 40] (Ret [] (.agg (A0.cells res))):=by
 unfold Ui at hh
 refine S' (t' rfl (ci' rfl hh (fun hh=>?_) (fun hh=>?_)))
 ·obtain ⟨x5,hx5,hh⟩:=bs' hh
  refine P' 3 rfl (c' (M7 hx5) rfl rfl (e' rfl ?_))
  refine AEx.wk ?_ (Zv hh)
  exact ⟨⟨⟨.rfl,rfl⟩,⟨.rfl,rfl⟩,⟨.rfl,rfl⟩,trivial⟩,⟨trivial,trivial,⟨rfl,.refl _,rfl⟩,trivial⟩,rfl⟩
 refine sk' ?_
 refine AEx.wk ?_ (Zv hh)
 exact ⟨⟨⟨.rfl,rfl⟩,⟨.rfl,rfl⟩,⟨.rfl,rfl⟩,trivial⟩,⟨trivial,trivial,⟨rfl,.refl _,rfl⟩,trivial⟩,rfl⟩
mutual
def N4 (o:Int)(a:A0)(b:A0)(o3:A0)(i:Int):Option A0:=
 if (decide (i < 4))=true then
  idx [a.Low,a.Low,a.High,a.High] i>>=fun x1=>
  idx [b.Low,b.High,b.Low,b.High] i>>=fun x2=>
  if (o == 9)=true then
   idx [a.Low,a.Low,a.High,a.High] i>>=fun x3=>
   idx [b.Low,b.High,b.Low,b.High] i>>=fun x4=>
   Gh o a b o3 i (IntKind.i64.wrap (x3 - x4))
  else
   Gh o a b o3 i (IntKind.i64.wrap (x1+x2))
 else
  some o3
 partial_fixpoint
def Gh (o:Int)(a:A0)(b:A0)(o31:A0)(i1:Int)(n:Int):Option A0:=
 if (o == 10)=true then
  idx [a.Low,a.Low,a.High,a.High] i1>>=fun x5=>
  idx [b.Low,b.High,b.Low,b.High] i1>>=fun x6=>
  Hh o a b o31 i1 (IntKind.i64.wrap (x5 * x6))
 else
  Hh o a b o31 i1 n
 partial_fixpoint
def Hh (o:Int)(a:A0)(b:A0)(o32:A0)(i2:Int)(n1:Int):Option A0:=
 if (i2 == 0)=true then
  A4 n1 n1>>=fun x7=>
  Ih o a b x7 i2 n1
 else
  Ih o a b o32 i2 n1
 partial_fixpoint
def Ih (o:Int)(a:A0)(b:A0)(o33:A0)(i3:Int)(n1:Int):Option A0:=
 B4 o33.Low n1>>=fun x8=>
 Y3 o33.High n1>>=fun x9=>
 A4 x8 x9>>=fun x10=>
 N4 o a b x10 (IntKind.i64.wrap (i3+1))
 partial_fixpoint
end
abbrev Bw (o:Int)(a:A0)(b:A0)(o3:A0)(i:Int)(res:A0):Prop:=LM C 81 0 Tryz.f202 [1,1,1,1,0,1,4] [(0,.d (.int .i64 o)),(6,.ref 2 0),(7,.full (ei64.rows [a.Low,a.Low,a.High,a.High])),(8,.full (ei64.rows [b.Low,b.High,b.Low,b.High])),(9,.ref 3 0),(10,.d (.int .i64 i))] [.dead,.dead,.row [.d (.int .i64 0),.d (.int .i64 0),.d (.int .i64 0),.d (.int .i64 0),.d (.str []),.full (estr.rows []),.full (A0.rows [])] 40,.row (A0.cells o3) 40] (Ret [] (.agg (A0.cells res)))
abbrev J1b (o:Int)(a:A0)(b:A0)(o31:A0)(i1:Int)(n:Int)(res:A0):Prop:=JM C 81 0 Tryz.f202 [1,1,1,1,0,1,4,5,1,0,4,1,1] [(0,.d (.int .i64 o)),(6,.ref 2 0),(7,.full (ei64.rows [a.Low,a.Low,a.High,a.High])),(8,.full (ei64.rows [b.Low,b.High,b.Low,b.High])),(9,.ref 3 0),(10,.d (.int .i64 i1)),(11,.d (.int .i64 n))] [.dead,.dead,.row [.d (.int .i64 0),.d (.int .i64 0),.d (.int .i64 0),.d (.int .i64 0),.d (.str []),.full (estr.rows []),.full (A0.rows [])] 40,.row (A0.cells o31) 40] (Ret [] (.agg (A0.cells res)))
abbrev K1b (o:Int)(a:A0)(b:A0)(o32:A0)(i2:Int)(n1:Int)(res:A0):Prop:=JM C 81 0 Tryz.f202 [1,1,1,1,0,1,4,5,1,0,4,1,1,1] [(0,.d (.int .i64 o)),(6,.ref 2 0),(7,.full (ei64.rows [a.Low,a.Low,a.High,a.High])),(8,.full (ei64.rows [b.Low,b.High,b.Low,b.High])),(9,.ref 3 0),(10,.d (.int .i64 i2)),(11,.d (.int .i64 n1))] [.dead,.dead,.row [.d (.int .i64 0),.d (.int .i64 0),.d (.int .i64 0),.d (.int .i64 0),.d (.str []),.full (estr.rows []),.full (A0.rows [])] 40,.row (A0.cells o32) 40] (Ret [] (.agg (A0.cells res)))
abbrev L1b (o:Int)(a:A0)(b:A0)(o33:A0)(i3:Int)(n1:Int)(res:A0):Prop:=JM C 81 0 Tryz.f202 [1,1,1,1,0,1,4,5,1,0,4,1,1,1,1] [(0,.d (.int .i64 o)),(6,.ref 2 0),(7,.full (ei64.rows [a.Low,a.Low,a.High,a.High])),(8,.full (ei64.rows [b.Low,b.High,b.Low,b.High])),(9,.ref 3 0),(10,.d (.int .i64 i3)),(11,.d (.int .i64 n1))] [.dead,.dead,.row [.d (.int .i64 0),.d (.int .i64 0),.d (.int .i64 0),.d (.int .i64 0),.d (.str []),.full (estr.rows []),.full (A0.rows [])] 40,.row (A0.cells o33) 40] (Ret [] (.agg (A0.cells res)))
theorem M16 (o:Int)(a:A0)(b:A0):(∀ o3 i res,N4 o a b o3 i=some res→Bw o a b o3 i res)∧(∀ o31 i1 n res,Gh o a b o31 i1 n=some res→J1b o a b o31 i1 n res)∧(∀ o32 i2 n1 res,Hh o a b o32 i2 n1=some res→K1b o a b o32 i2 n1 res)∧(∀ o33 i3 n1 res,Ih o a b o33 i3 n1=some res→L1b o a b o33 i3 n1 res):=by
 refine N4.mutual_partial_correctness o a b _ _ _ _ ?_ ?_ ?_ ?_
 ·intro g1 ih1 o3 i res hh
  refine W0.unroll (S' (t' rfl (ci' rfl hh (fun hh=>?_) (fun hh=>?_))))
  ·obtain ⟨x1,hx1,hh⟩:=bs' hh
   obtain ⟨x2,hx2,hh⟩:=bs' hh
   refine sk' (S' (bk' (S' (AEx.draw hC 10 rfl rfl rfl (O' 2 rfl (AQ.i hC rfl (U0 hx1) (ei64.idx hx1) rfl (O' 3 rfl (AQ.i hC rfl (U0 hx2) (ei64.idx hx2) rfl (E' rfl (n' (S' (t' rfl (ci' rfl hh (fun hh=>?_) (fun hh=>?_))))))))))))))
   ·obtain ⟨x3,hx3,hh⟩:=bs' hh
    obtain ⟨x4,hx4,hh⟩:=bs' hh
    refine AEx.draw hC 10 rfl rfl rfl (O' 2 rfl (AQ.i hC rfl (U0 hx3) (ei64.idx hx3) rfl (O' 3 rfl (AQ.i hC rfl (U0 hx4) (ei64.idx hx4) rfl (E' rfl (n' ?_))))))
    refine AEx.wk ?_ (ih1 _ _ _ _ hh)
    exact ⟨⟨⟨.rfl,rfl⟩,⟨.rfl,rfl⟩,⟨.rfl,rfl⟩,⟨.rfl,rfl⟩,⟨.rfl,rfl⟩,⟨.rfl,rfl⟩,⟨.rfl,rfl⟩,trivial⟩,⟨trivial,trivial,⟨rfl,.refl _,rfl⟩,⟨rfl,.refl _,rfl⟩,trivial⟩,rfl⟩
   refine sk' ?_
   refine AEx.wk ?_ (ih1 _ _ _ _ hh)
   exact ⟨⟨⟨.rfl,rfl⟩,⟨.rfl,rfl⟩,⟨.rfl,rfl⟩,⟨.rfl,rfl⟩,⟨.rfl,rfl⟩,⟨.rfl,rfl⟩,⟨.rfl,rfl⟩,trivial⟩,⟨trivial,trivial,⟨rfl,.refl _,rfl⟩,⟨rfl,.refl _,rfl⟩,trivial⟩,rfl⟩
  cases hh
  exact ex' (p' 1 rfl (E0.s hC rfl (n' (re' (rt' rfl rfl rfl)))))
 ·intro g2 ih2 o31 i1 n res hh
  refine S' (t' rfl (ci' rfl hh (fun hh=>?_) (fun hh=>?_)))
  ·obtain ⟨x5,hx5,hh⟩:=bs' hh
   obtain ⟨x6,hx6,hh⟩:=bs' hh
   refine AEx.draw hC 10 rfl rfl rfl (O' 2 rfl (AQ.i hC rfl (U0 hx5) (ei64.idx hx5) rfl (O' 3 rfl (AQ.i hC rfl (U0 hx6) (ei64.idx hx6) rfl (E' rfl (n' ?_))))))
   refine AEx.wk ?_ (ih2 _ _ _ _ hh)
   exact ⟨⟨⟨.rfl,rfl⟩,⟨.rfl,rfl⟩,⟨.rfl,rfl⟩,⟨.rfl,rfl⟩,⟨.rfl,rfl⟩,⟨.rfl,rfl⟩,⟨.rfl,rfl⟩,trivial⟩,⟨trivial,trivial,⟨rfl,.refl _,rfl⟩,⟨rfl,.refl _,rfl⟩,trivial⟩,rfl⟩
  refine sk' ?_
  refine AEx.wk ?_ (ih2 _ _ _ _ hh)
  exact ⟨⟨⟨.rfl,rfl⟩,⟨.rfl,rfl⟩,⟨.rfl,rfl⟩,⟨.rfl,rfl⟩,⟨.rfl,rfl⟩,⟨.rfl,rfl⟩,⟨.rfl,rfl⟩,trivial⟩,⟨trivial,trivial,⟨rfl,.refl _,rfl⟩,⟨rfl,.refl _,rfl⟩,trivial⟩,rfl⟩
 ·intro g3 ih3 o32 i2 n1 res hh
  refine S' (t' rfl (ci' rfl hh (fun hh=>?_) (fun hh=>?_)))
  ·obtain ⟨x7,hx7,hh⟩:=bs' hh
   refine P' 2 rfl (c' (Y5 hx7) rfl rfl (E0.s hC rfl (n' ?_)))
   refine AEx.wk ?_ (ih3 _ _ _ _ hh)
   exact ⟨⟨⟨.rfl,rfl⟩,⟨.rfl,rfl⟩,⟨.rfl,rfl⟩,⟨.rfl,rfl⟩,⟨.rfl,rfl⟩,⟨.rfl,rfl⟩,⟨.rfl,rfl⟩,trivial⟩,⟨trivial,trivial,⟨rfl,.refl _,rfl⟩,⟨rfl,.refl _,rfl⟩,trivial⟩,rfl⟩
  refine sk' ?_
  refine AEx.wk ?_ (ih3 _ _ _ _ hh)
  exact ⟨⟨⟨.rfl,rfl⟩,⟨.rfl,rfl⟩,⟨.rfl,rfl⟩,⟨.rfl,rfl⟩,⟨.rfl,rfl⟩,⟨.rfl,rfl⟩,⟨.rfl,rfl⟩,trivial⟩,⟨trivial,trivial,⟨rfl,.refl _,rfl⟩,⟨rfl,.refl _,rfl⟩,trivial⟩,rfl⟩
 ·intro g0 ih0 o33 i3 n1 res hh
  obtain ⟨x8,hx8,hh⟩:=bs' hh
  obtain ⟨x9,hx9,hh⟩:=bs' hh
  obtain ⟨x10,hx10,hh⟩:=bs' hh
  refine AEx.draw hC 9 rfl rfl rfl (O' 3 rfl (Qc' (A5 hx8) rfl rfl (O' 3 rfl (Qc' (M7 hx9) rfl rfl (Qc' (Y5 hx10) rfl rfl (Qn' (E0.s hC rfl (n' (T' rfl ?_)))))))))
  refine W0.wk ?_ (ih0 _ _ _ hh)
  exact ⟨⟨⟨.rfl,rfl⟩,⟨.rfl,rfl⟩,⟨.rfl,rfl⟩,⟨.rfl,rfl⟩,⟨.rfl,rfl⟩,⟨.rfl,rfl⟩,trivial⟩,⟨trivial,trivial,⟨rfl,.refl _,rfl⟩,⟨rfl,.refl _,rfl⟩,trivial⟩,rfl⟩
theorem D19 {o a b o3 i res}(hh:N4 o a b o3 i=some res):Bw o a b o3 i res:=(M16 o a b).1 _ _ _ hh
def Dd (o:Int)(a:A0)(b:A0):Option A0:=
 N4 o a b (A0.mk 0 0 0 0 [] [] []) 0
theorem G1g {o a b res}(hh:Dd o a b=some res):K0 C 202 [.d (.int .i64 o),.agg (A0.cells a),.agg (A0.cells b)] [] (Ret [] (.agg (A0.cells res))):=by
 unfold Dd at hh
 refine K0.intro hC Tryz.func202 rfl rfl rfl (s' rfl rfl (E0.n hC rfl (E0.n hC rfl (E0.nf hC rfl (n' (p' 8 rfl (E0.be hC rfl (ei64.rows_map [a.Low,a.Low,a.High,a.High]).symm (e' rfl (p' 8 rfl (E0.be hC rfl (ei64.rows_map [b.Low,b.High,b.Low,b.High]).symm (e' rfl (p' 1 rfl (E0.nf hC rfl ?_)))))))))))))
 refine E0.s hC rfl (n' (S' (t' rfl (bk' ?_))))
 refine AEx.ofLoop ?_
 refine W0.wk ?_ (D19 hh)
 exact ⟨⟨⟨.rfl,rfl⟩,⟨.rfl,rfl⟩,⟨.rfl,rfl⟩,⟨.rfl,rfl⟩,⟨.rfl,rfl⟩,⟨.rfl,rfl⟩,trivial⟩,⟨trivial,trivial,⟨rfl,.refl _,rfl⟩,⟨rfl,.refl _,rfl⟩,trivial⟩,rfl⟩
def Kk (o:Int)(a:A0)(b:A0):Option A0:=
 if (o == 11)=true then
  Wm a>>=fun x1=>
  if (bif (decide (a.Low≥0)) then (decide (b.Low≥0)) else false)=true then
   A4 0 x1>>=fun x2=>
   some x2
  else
   A4 (IntKind.i64.wrap (0 - x1)) x1>>=fun x3=>
   some x3
 else
  if (o == 12)=true then
   if (decide (b.Low < 0))=true then
    B4 (IntKind.i64.wrap (b.Low+1)) 0>>=fun x4=>
    Ui b x4
   else
    Ui b 0
  else
   if (o == 21)=true then
    B4 a.Low b.Low>>=fun x7=>
    B4 a.High b.High>>=fun x8=>
    A4 x7 x8>>=fun x9=>
    some x9
   else
    if (o == 22)=true then
     Y3 a.Low b.Low>>=fun x10=>
     Y3 a.High b.High>>=fun x11=>
     A4 x10 x11>>=fun x12=>
     some x12
    else
     Dd o a b>>=fun x13=>
     some x13
theorem G1j {o a b res}(hh:Kk o a b=some res):K0 C 163 [.d (.int .i64 o),.agg (A0.cells a),.agg (A0.cells b)] [] (Ret [] (.agg (A0.cells res))):=by
 unfold Kk at hh
 refine K0.intro hC Tryz.func163 rfl rfl rfl (s' rfl rfl (E0.n hC rfl (E0.n hC rfl (E0.nf hC rfl (n' (S' (t' rfl (ci' rfl hh (fun hh=>?_) (fun hh=>?_)))))))))
 ·obtain ⟨x1,hx1,hh⟩:=bs' hh
  refine p' 1 rfl (c' (I1b hx1) rfl rfl (e' rfl (S' (sg' 8 rfl (G' 5 rfl (a1' rfl (a1' rfl (pa' rfl (an' (n' (ci' rfl hh (fun hh=>?_) (fun hh=>?_))))))))))))
  ·obtain ⟨x2,hx2,hh⟩:=bs' hh
   cases hh
   exact p' 1 rfl (c' (Y5 hx2) rfl rfl (E0.s hC rfl (n' (re' (rt' rfl rfl rfl)))))
  obtain ⟨x3,hx3,hh⟩:=bs' hh
  cases hh
  exact sk' (p' 3 rfl (c' (Y5 hx3) rfl rfl (E0.s hC rfl (n' (re' (rt' rfl rfl rfl))))))
 refine sk' (S' (t' rfl (ci' rfl hh (fun hh=>?_) (fun hh=>?_))))
 ·refine t' rfl (t' rfl (S' (t' rfl (ci' rfl hh (fun hh=>?_) (fun hh=>?_)))))
  ·obtain ⟨x4,hx4,hh⟩:=bs' hh
   refine P' 3 rfl (c' (A5 hx4) rfl rfl (e' rfl ?_))
   refine AEx.wk ?_ (Aw hh)
   exact ⟨⟨⟨.rfl,rfl⟩,⟨.rfl,rfl⟩,⟨.rfl,rfl⟩,⟨.rfl,rfl⟩,trivial⟩,⟨trivial,⟨rfl,.refl _,rfl⟩,⟨rfl,.refl _,rfl⟩,trivial⟩,rfl⟩
  refine sk' ?_
  refine AEx.wk ?_ (Aw hh)
  exact ⟨⟨⟨.rfl,rfl⟩,⟨.rfl,rfl⟩,⟨.rfl,rfl⟩,⟨.rfl,rfl⟩,trivial⟩,⟨trivial,⟨rfl,.refl _,rfl⟩,⟨rfl,.refl _,rfl⟩,trivial⟩,rfl⟩
 refine sk' (S' (t' rfl (ci' rfl hh (fun hh=>?_) (fun hh=>?_))))
 ·obtain ⟨x7,hx7,hh⟩:=bs' hh
  obtain ⟨x8,hx8,hh⟩:=bs' hh
  obtain ⟨x9,hx9,hh⟩:=bs' hh
  cases hh
  exact S' (AEx.draw hC 11 rfl rfl rfl (O' 4 rfl (Qc' (A5 hx7) rfl rfl (O' 4 rfl (Qc' (A5 hx8) rfl rfl (Qc' (Y5 hx9) rfl rfl (Qn' (E0.s hC rfl (n' (re' (rt' rfl rfl rfl)))))))))))
 refine sk' (S' (t' rfl (ci' rfl hh (fun hh=>?_) (fun hh=>?_))))
 ·obtain ⟨x10,hx10,hh⟩:=bs' hh
  obtain ⟨x11,hx11,hh⟩:=bs' hh
  obtain ⟨x12,hx12,hh⟩:=bs' hh
  cases hh
  exact S' (AEx.draw hC 11 rfl rfl rfl (O' 4 rfl (Qc' (M7 hx10) rfl rfl (O' 4 rfl (Qc' (M7 hx11) rfl rfl (Qc' (Y5 hx12) rfl rfl (Qn' (E0.s hC rfl (n' (re' (rt' rfl rfl rfl)))))))))))
 obtain ⟨x13,hx13,hh⟩:=bs' hh
 cases hh
 exact sk' (p' 3 rfl (c' (G1g hx13) rfl rfl (E0.s hC rfl (n' (re' (rt' rfl rfl rfl))))))
def H5 (o:Int)(k:List A0)(ints:Bool)(bools:Bool)(i:Int):Option (A0×Int):=
 if (decide (i < ((k).length:Int)))=true then
  (if ints=true then idx k i else some default)>>=fun x1=>
  (if bools=true then idx k i else some default)>>=fun x2=>
  H5 o k (bif ints then (x1.Kind == 1) else false) (bif bools then (x2.Kind == 0) else false) (IntKind.i64.wrap (i+1))
 else
  if (bif (bif (o == 7) then true else (o == 19)) then true else (o == 20))=true then
   if (!bools)=true then
    some ((A0.mk 0 0 0 0 [] [] []),9)
   else
    some ((A0.mk 0 0 0 0 [] [] []),0)
  else
   if (bif (o == 13) then true else (o == 14))=true then
    if (bif (!ints) then (!bools) else false)=true then
     some ((A0.mk 0 0 0 0 [] [] []),9)
    else
     some ((A0.mk 0 0 0 0 [] [] []),0)
   else
    if (o == 23)=true then
     idx k 0>>=fun x3=>
     (if (!(x3.Kind != 0))=true then idx k 1 else some default)>>=fun x4=>
     (if (!(x3.Kind != 0))=true then X6 x4 else some default)>>=fun x5=>
     (if (!(bif (x3.Kind != 0) then true else (!x5)))=true then idx k 1 else some default)>>=fun x6=>
     (if (!(bif (x3.Kind != 0) then true else (!x5)))=true then idx k 2 else some default)>>=fun x7=>
     if (bif (bif (x3.Kind != 0) then true else (!x5)) then true else (x6.Kind != x7.Kind))=true then
      some ((A0.mk 0 0 0 0 [] [] []),9)
     else
      idx k 1>>=fun x8=>
      if (x8.Kind == 0)=true then
       some ((A0.mk 0 0 0 0 [] [] []),0)
      else
       idx k 1>>=fun x9=>
       idx k 2>>=fun x10=>
       B4 x9.Low x10.Low>>=fun x11=>
       idx k 1>>=fun x12=>
       idx k 2>>=fun x13=>
       Y3 x12.High x13.High>>=fun x14=>
       A4 x11 x14>>=fun x15=>
       some (x15,0)
    else
     if (!ints)=true then
      some ((A0.mk 0 0 0 0 [] [] []),9)
     else
      if (bif (bif (bif (o == 15) then true else (o == 16)) then true else (o == 17)) then true else (o == 18))=true then
       some ((A0.mk 0 0 0 0 [] [] []),0)
      else
       if (o == 6)=true then
        idx k 0>>=fun x16=>
        idx k 0>>=fun x17=>
        A4 (IntKind.i64.wrap (0 - x16.High)) (IntKind.i64.wrap (0 - x17.Low))>>=fun x18=>
        Kf x18>>=fun x19=>
        some (x19.1,x19.2)
       else
        idx k 0>>=fun x20=>
        idx k 1>>=fun x21=>
        Kk o x20 x21>>=fun x22=>
        Kf x22>>=fun x23=>
        some (x23.1,x23.2)
 partial_fixpoint
abbrev Is (o:Int)(k:List A0)(ints:Bool)(bools:Bool)(i:Int)(res:A0×Int):Prop:=LM C 157 0 Tryz.f96 [1,1,1,0,1,4] [(0,.d (.int .i64 o)),(1,.d (.sl (A0.rows k))),(4,.ref 0 0),(6,.d (.bool ints)),(7,.d (.bool bools)),(8,.d (.int .i64 i))] [.row [.d (.int .i64 0),.d (.int .i64 0),.d (.int .i64 0),.d (.int .i64 0),.d (.str []),.full (estr.rows []),.full (A0.rows [])] 40] (Ret [] (.tup [.agg (A0.cells res.1),.d (.int .i64 res.2)]))
theorem P12 (o:Int)(k:List A0):(∀ ints bools i res,H5 o k ints bools i=some res→Is o k ints bools i res):=by
 refine H5.partial_correctness o k _ ?_
 ·intro g0 ih0 ints bools i res hh
  refine W0.unroll (S' (p' 2 rfl (qe' rfl trivial (A0.lenA _) (e' rfl (ci' rfl hh (fun hh=>?_) (fun hh=>?_))))))
  ·obtain ⟨x1,hx1,hh⟩:=bs' hh
   obtain ⟨x2,hx2,hh⟩:=bs' hh
   refine sk' (S' (bk' (sg' 10 rfl (G' 4 rfl (AG.i hC rfl rfl (fun hg=>⟨hg,hg,trivial⟩) (fun hw=>⟨U0 (G1 hw hx1),A0.idx (G1 hw hx1),rfl⟩) (a1' rfl (a1' rfl (a1' rfl (pa' rfl (a0' rfl (an' (n' (AEx.regionG 10 rfl ?_)))))))))))))
   exact G' 4 rfl (AG.i hC rfl rfl (fun hg=>⟨hg,hg,trivial⟩) (fun hw=>⟨U0 (G1 hw hx2),A0.idx (G1 hw hx2),rfl⟩) (a1' rfl (a1' rfl (a1' rfl (pa' rfl (a0' rfl (an' (n' (T' rfl (lw' (ih0 _ _ _ _ hh) rfl rfl rfl))))))))))
  refine ex' (S' (sg' 10 rfl (G' 4 rfl (a1' rfl (po' rfl (G' 2 rfl (a1' rfl (po' rfl (an' (n' (ci' rfl hh (fun hh=>?_) (fun hh=>?_))))))))))))
  ·refine S' (t' rfl (ci' rfl hh (fun hh=>?_) (fun hh=>?_)))
   ·cases hh
    exact p' 1 rfl (E0.s hC rfl (e' rfl (re' (rt' rfl rfl rfl))))
   cases hh
   exact sk' (p' 1 rfl (E0.s hC rfl (e' rfl (re' (rt' rfl rfl rfl)))))
  refine sk' (S' (sg' 6 rfl (G' 4 rfl (a1' rfl (po' rfl (an' (n' (ci' rfl hh (fun hh=>?_) (fun hh=>?_)))))))))
  ·refine S' (sg' 6 rfl (G' 4 rfl (a1' rfl (pa' rfl (an' (n' (ci' rfl hh (fun hh=>?_) (fun hh=>?_))))))))
   ·cases hh
    exact p' 1 rfl (E0.s hC rfl (e' rfl (re' (rt' rfl rfl rfl))))
   cases hh
   exact sk' (p' 1 rfl (E0.s hC rfl (e' rfl (re' (rt' rfl rfl rfl)))))
  refine sk' (S' (t' rfl (ci' rfl hh (fun hh=>?_) (fun hh=>?_))))
  ·obtain ⟨x3,hx3,hh⟩:=bs' hh
   obtain ⟨x4,hx4,hh⟩:=bs' hh
   obtain ⟨x5,hx5,hh⟩:=bs' hh
   obtain ⟨x6,hx6,hh⟩:=bs' hh
   obtain ⟨x7,hx7,hh⟩:=bs' hh
   refine S' (S' (AEx.drawG hC 23 rfl rfl rfl (a0' rfl (AG.i hC rfl rfl (fun _=>trivial) (fun hw=>⟨U0 hx3,A0.idx hx3,rfl⟩) (G' 5 rfl (AG.i hC rfl rfl (fun hg=>⟨hg,trivial⟩) (fun hw=>⟨U0 (G1 hw hx4),A0.idx (G1 hw hx4),rfl⟩) (a1' rfl (AG.c rfl rfl (fun hg=>⟨hg,trivial⟩) (fun hw=>Si (G1 hw hx5)) (a1' rfl (po' rfl (G' 2 rfl ?_)))))))))))
   refine AG.i hC rfl rfl (fun hg=>⟨hg,trivial⟩) (fun hw=>⟨U0 (G1 hw hx6),A0.idx (G1 hw hx6),rfl⟩) (a1' rfl (a1' rfl (a0' rfl (AG.i hC rfl rfl (fun hg=>⟨hg,trivial⟩) (fun hw=>⟨U0 (G1 hw hx7),A0.idx (G1 hw hx7),rfl⟩) (a1' rfl (a1' rfl (a2' rfl (po' rfl (an' (n' (ci' rfl hh (fun hh=>?_) (fun hh=>?_))))))))))))
   ·cases hh
    exact p' 1 rfl (E0.s hC rfl (e' rfl (re' (rt' rfl rfl rfl))))
   obtain ⟨x8,hx8,hh⟩:=bs' hh
   refine sk' (S' (p' 1 rfl (i' rfl (U0 hx8) (A0.idx hx8) rfl (e' rfl (ci' rfl hh (fun hh=>?_) (fun hh=>?_))))))
   ·cases hh
    exact p' 1 rfl (E0.s hC rfl (e' rfl (re' (rt' rfl rfl rfl))))
   obtain ⟨x9,hx9,hh⟩:=bs' hh
   obtain ⟨x10,hx10,hh⟩:=bs' hh
   obtain ⟨x11,hx11,hh⟩:=bs' hh
   obtain ⟨x12,hx12,hh⟩:=bs' hh
   obtain ⟨x13,hx13,hh⟩:=bs' hh
   obtain ⟨x14,hx14,hh⟩:=bs' hh
   obtain ⟨x15,hx15,hh⟩:=bs' hh
   cases hh
   refine sk' (S' (AEx.draw hC 19 rfl rfl rfl (Q' rfl (AQ.i hC rfl (U0 hx9) (A0.idx hx9) rfl (O' 3 rfl (AQ.i hC rfl (U0 hx10) (A0.idx hx10) rfl (O' 2 rfl (Qc' (A5 hx11) rfl rfl (Q' rfl (AQ.i hC rfl (U0 hx12) (A0.idx hx12) rfl (O' 3 rfl (AQ.i hC rfl (U0 hx13) (A0.idx hx13) rfl (O' 2 rfl ?_)))))))))))))
   exact Qc' (M7 hx14) rfl rfl (Qc' (Y5 hx15) rfl rfl (Qn' (E0.s hC rfl (e' rfl (re' (rt' rfl rfl rfl))))))
  refine sk' (S' (t' rfl (ci' rfl hh (fun hh=>?_) (fun hh=>?_))))
  ·cases hh
   exact p' 1 rfl (E0.s hC rfl (e' rfl (re' (rt' rfl rfl rfl))))
  refine sk' (S' (sg' 14 rfl (G' 4 rfl (a1' rfl (po' rfl (G' 2 rfl (a1' rfl (po' rfl (G' 2 rfl (a1' rfl (po' rfl (an' (n' (ci' rfl hh (fun hh=>?_) (fun hh=>?_)))))))))))))))
  ·cases hh
   exact p' 1 rfl (E0.s hC rfl (e' rfl (re' (rt' rfl rfl rfl))))
  refine sk' (S' (t' rfl (ci' rfl hh (fun hh=>?_) (fun hh=>?_))))
  ·obtain ⟨x16,hx16,hh⟩:=bs' hh
   obtain ⟨x17,hx17,hh⟩:=bs' hh
   obtain ⟨x18,hx18,hh⟩:=bs' hh
   obtain ⟨x19,hx19,hh⟩:=bs' hh
   cases hh
   exact S' (AEx.draw hC 14 rfl rfl rfl (Q' rfl (AQ.i hC rfl (U0 hx16) (A0.idx hx16) rfl (O' 4 rfl (AQ.i hC rfl (U0 hx17) (A0.idx hx17) rfl (O' 3 rfl (Qc' (Y5 hx18) rfl rfl (Qc' (Rz hx19) rfl rfl (E' rfl (E0.s hC rfl (e' rfl (re' (rt' rfl rfl rfl)))))))))))))
  obtain ⟨x20,hx20,hh⟩:=bs' hh
  obtain ⟨x21,hx21,hh⟩:=bs' hh
  obtain ⟨x22,hx22,hh⟩:=bs' hh
  obtain ⟨x23,hx23,hh⟩:=bs' hh
  cases hh
  exact sk' (S' (AEx.draw hC 11 rfl rfl rfl (O' 2 rfl (AQ.i hC rfl (U0 hx20) (A0.idx hx20) rfl (O' 2 rfl (AQ.i hC rfl (U0 hx21) (A0.idx hx21) rfl (Q' rfl (Qc' (G1j hx22) rfl rfl (Qc' (Rz hx23) rfl rfl (E' rfl (E0.s hC rfl (e' rfl (re' (rt' rfl rfl rfl))))))))))))))
theorem G14 {o k ints bools i res}(hh:H5 o k ints bools i=some res):Is o k ints bools i res:=(P12 o k) _ _ _ _ hh
def Cf (o:Int)(k:List A0):Option (A0×Int):=
 H5 o k true true 0
theorem M1b {o k res}(hh:Cf o k=some res):K0 C 96 [.d (.int .i64 o),.d (.sl (A0.rows k))] [] (Ret [] (.tup [.agg (A0.cells res.1),.d (.int .i64 res.2)])):=by
 unfold Cf at hh
 exact K0.intro hC Tryz.func96 rfl rfl rfl (s' rfl rfl (E0.nf hC rfl (e' rfl (t' rfl (t' rfl (S' (t' rfl (bk' (fw' (G14 hh) rfl rfl rfl)))))))))
mutual
def V7 (s:T0)(e:D0):Option (A0×Int):=
 Gi s e [] 0
 partial_fixpoint
def Gi (s:T0)(e:D0)(k:List A0)(i:Int):Option (A0×Int):=
 if (decide (i < ((e.Kids).length:Int)))=true then
  idx e.Kids i>>=fun x1=>
  V7 s x1>>=fun x15=>
  if (x15.2 != 0)=true then
   some ((A0.mk 0 0 0 0 [] [] []),x15.2)
  else
   if (decide ((k.length+1) * 97≤140737488355328))=true then
    Gi s e (k++[x15.1]) (IntKind.i64.wrap (i+1))
   else none
 else
  if (e.Op == 0)=true then
   A4 e.NV e.NV>>=fun x2=>
   some (x2,0)
  else
   if (bif (e.Op == 1) then true else (e.Op == 2))=true then
    some ((A0.mk 0 0 0 0 [] [] []),0)
   else
    if (e.Op == 3)=true then
     Ag s e.Name>>=fun x3=>
     if (!x3.2)=true then
      some ((A0.mk 0 0 0 0 [] [] []),7)
     else
      some (x3.1.TypeV,0)
    else
     if (e.Op == 4)=true then
      idx k 0>>=fun x4=>
      if (x4.Kind != 3)=true then
       some ((A0.mk 0 0 0 0 [] [] []),9)
      else
       W8 e k 0
     else
      if (e.Op == 5)=true then
       idx k 0>>=fun x5=>
       (if (!(x5.Kind != 2))=true then idx k 1 else some default)>>=fun x6=>
       if (bif (x5.Kind != 2) then true else (x6.Kind != 1))=true then
        some ((A0.mk 0 0 0 0 [] [] []),9)
       else
        idx k 0>>=fun x7=>
        idx x7.Of 0>>=fun x8=>
        some (x8,0)
      else
       Cf e.Op k>>=fun x9=>
       some (x9.1,x9.2)
 partial_fixpoint
end
abbrev N1b (s:T0)(e:D0)(res:A0×Int):Prop:=K0 C 44 [.agg (T0.cells s),.agg (D0.cells e)] [] (Ret [] (.tup [.agg (A0.cells res.1),.d (.int .i64 res.2)]))
abbrev H1j (s:T0)(e:D0)(k:List A0)(i:Int)(res:A0×Int):Prop:=LM C 135 0 Tryz.f44 [1,1,0,1,4] [(2,.ref 0 0),(3,.ref 1 0),(4,.ref 2 0),(6,.osl 3 (A0.rows k)),(7,.d (.int .i64 i))] [.row (T0.cells s) 78,.row (D0.cells e) 34,.row [.d (.int .i64 0),.d (.int .i64 0),.d (.int .i64 0),.d (.int .i64 0),.d (.str []),.full (estr.rows []),.full (A0.rows [])] 40,.tok 40 7] (Ret [] (.tup [.agg (A0.cells res.1),.d (.int .i64 res.2)]))
theorem P1l (s:T0):(∀ e res,V7 s e=some res→N1b s e res)∧(∀ e k i res,Gi s e k i=some res→H1j s e k i res):=by
 refine V7.mutual_partial_correctness s _ _ ?_ ?_
 ·intro g1 ih1 e res hh
  exact K0.intro hC Tryz.func44 rfl rfl rfl (s' rfl rfl (E0.n hC rfl (E0.n hC rfl (E0.nf hC rfl (e' rfl (s' rfl rfl (E0.be hC rfl (A0.rows_map []).symm (E0.tokE 13 40 7 rfl (e' rfl (S' (t' rfl (bk' (fw' (ih1 _ _ _ _ hh) rfl rfl rfl)))))))))))))
 ·intro g0 g1 ih0 ih1 e k i res hh
  refine W0.unroll (S' (p' 3 rfl (qe' rfl trivial (D0.lenA _) (e' rfl (ci' rfl hh (fun hh=>?_) (fun hh=>?_))))))
  ·obtain ⟨x1,hx1,hh⟩:=bs' hh
   obtain ⟨x15,hx15,hh⟩:=bs' hh
   refine sk' (S' (bk' (S' ?_)))
   refine AEx.drawL hC 12 [11] [(10,4)] [[.row (T0.cells s) 78,.row (D0.cells e) 34,.row [.d (.int .i64 0),.d (.int .i64 0),.d (.int .i64 0),.d (.int .i64 0),.d (.str []),.full (estr.rows []),.full (A0.rows [])] 40,.tok 40 7,.row [.d (.int .i64 0),.d (.int .i64 0),.d (.int .i64 0),.d (.int .i64 0),.d (.str []),.full (estr.rows []),.full (A0.rows [])] 40],[.row (T0.cells s) 78,.row (D0.cells e) 34,.row [.d (.int .i64 0),.d (.int .i64 0),.d (.int .i64 0),.d (.int .i64 0),.d (.str []),.full (estr.rows []),.full (A0.rows [])] 40,.tok 40 7,.row (A0.cells x15.1) 40]] rfl rfl rfl rfl rfl rfl rfl rfl rfl rfl ?_
   refine AS.q hC rfl rfl rfl rfl (AS.q hC rfl rfl rfl rfl (AS.q hC rfl rfl rfl rfl (AS.q hC rfl rfl rfl rfl (AS.ix hC rfl (U0 hx1) (D0.idx hx1) rfl rfl rfl (AS.q hC rfl rfl rfl rfl (AS.c (ih0 _ _ hx15) rfl rfl rfl rfl (AS.q hC rfl rfl rfl rfl (AS.q hC rfl rfl rfl rfl (AS.q hC rfl rfl rfl rfl (AS.n hC rfl rfl rfl rfl (AS.s hC rfl rfl rfl rfl rfl rfl rfl (AS.nil (e' rfl ?_)))))))))))))
   refine S' (t' rfl (ci' rfl hh (fun hh=>?_) (fun hh=>?_)))
   ·cases hh
    exact p' 2 rfl (E0.s hC rfl (e' rfl (re' (rt' rfl rfl rfl))))
   obtain ⟨c8,hh⟩:=I1 hh
   exact sk' (P' 2 rfl (E0.be hC rfl (A0.rows_map [x15.1]).symm (E0.ap hC rfl (rs:=A0.rows (k++[x15.1])) (A0.app k [x15.1]) (A0.sz k) (A0.sz [x15.1]) (E4 (A0.len k) (A0.len [x15.1]) c8) (e' rfl (T' rfl (lw' (ih1 _ _ _ _ hh) rfl rfl rfl))))))
  refine ex' (S' (t' rfl (ci' rfl hh (fun hh=>?_) (fun hh=>?_))))
  ·obtain ⟨x2,hx2,hh⟩:=bs' hh
   cases hh
   exact p' 4 rfl (c' (Y5 hx2) rfl rfl (E0.s hC rfl (e' rfl (re' (rt' rfl rfl rfl)))))
  refine sk' (S' (sg' 8 rfl (G' 5 rfl (a1' rfl (a1' rfl (po' rfl (an' (n' (ci' rfl hh (fun hh=>?_) (fun hh=>?_))))))))))
  ·cases hh
   exact p' 1 rfl (E0.s hC rfl (e' rfl (re' (rt' rfl rfl rfl))))
  refine sk' (S' (t' rfl (ci' rfl hh (fun hh=>?_) (fun hh=>?_))))
  ·obtain ⟨x3,hx3,hh⟩:=bs' hh
   refine p' 3 rfl (c' (L17 hx3) rfl rfl (o' 3 rfl (E0.nf hC rfl (E0.s hC rfl (e' rfl (S' (t' rfl (ci' rfl hh (fun hh=>?_) (fun hh=>?_)))))))))
   ·cases hh
    exact p' 1 rfl (E0.s hC rfl (e' rfl (re' (rt' rfl rfl rfl))))
   cases hh
   exact sk' (p' 2 rfl (E0.s hC rfl (e' rfl (re' (rt' rfl rfl rfl)))))
  refine sk' (S' (t' rfl (ci' rfl hh (fun hh=>?_) (fun hh=>?_))))
  ·obtain ⟨x4,hx4,hh⟩:=bs' hh
   refine S' (p' 1 rfl (i' rfl (U0 hx4) (A0.idx hx4) rfl (e' rfl (ci' rfl hh (fun hh=>?_) (fun hh=>?_)))))
   ·cases hh
    exact p' 1 rfl (E0.s hC rfl (e' rfl (re' (rt' rfl rfl rfl))))
   refine sk' (S' (t' rfl (bk' ?_)))
   refine AEx.ofLoop ?_
   refine W0.wk ?_ (F1g hh)
   exact ⟨⟨⟨.rfl,rfl⟩,⟨.rfl,rfl⟩,⟨.rfl,rfl⟩,⟨.rfl,rfl⟩,trivial⟩,⟨trivial,⟨rfl,.refl _,rfl⟩,⟨rfl,.refl _,rfl⟩,rfl,trivial⟩,rfl⟩
  refine sk' (S' (t' rfl (ci' rfl hh (fun hh=>?_) (fun hh=>?_))))
  ·obtain ⟨x5,hx5,hh⟩:=bs' hh
   obtain ⟨x6,hx6,hh⟩:=bs' hh
   refine S' (sg' 12 rfl (a0' rfl (AG.i hC rfl rfl (fun _=>trivial) (fun hw=>⟨U0 hx5,A0.idx hx5,rfl⟩) (G' 5 rfl (AG.i hC rfl rfl (fun hg=>⟨hg,trivial⟩) (fun hw=>⟨U0 (G1 hw hx6),A0.idx (G1 hw hx6),rfl⟩) (a1' rfl (a1' rfl (a1' rfl (po' rfl (an' (n' (ci' rfl hh (fun hh=>?_) (fun hh=>?_)))))))))))))
   ·cases hh
    exact p' 1 rfl (E0.s hC rfl (e' rfl (re' (rt' rfl rfl rfl))))
   obtain ⟨x7,hx7,hh⟩:=bs' hh
   obtain ⟨x8,hx8,hh⟩:=bs' hh
   cases hh
   exact sk' (p' 1 rfl (i' rfl (U0 hx7) (A0.idx hx7) rfl (o' 2 rfl (i' rfl (U0 hx8) (A0.idx hx8) rfl (q' rfl (E0.s hC rfl (e' rfl (re' (rt' rfl rfl rfl)))))))))
  obtain ⟨x9,hx9,hh⟩:=bs' hh
  cases hh
  exact sk' (p' 3 rfl (E0.cl rfl (M1b hx9) ⟨.rfl,.osl,trivial⟩ rfl (o' 2 rfl (E0.s hC rfl (e' rfl (re' (rt' rfl rfl rfl)))))))
theorem Bm {s e res}(hh:V7 s e=some res):N1b s e res:=(P1l s).1 _ _ hh
def Dq (e:D0):Option Bool:=
 some (bif (bif (e.Op == 3) then true else (e.Op == 4)) then true else (e.Op == 5))
theorem H1g {e res}(hh:Dq e=some res):K0 C 139 [.agg (D0.cells e)] [] (Ret [] (.d (.bool res))):=by
 unfold Dq at hh
 cases hh
 refine K0.intro hC Tryz.func139 rfl rfl rfl (s' rfl rfl (E0.n hC rfl (e' rfl (sg' 14 rfl (G' 5 rfl (a1' rfl (a1' rfl (po' rfl (G' 2 rfl (a1' rfl (a1' rfl (po' rfl (a0' rfl ?_)))))))))))))
 exact an' (n' (re' (rt' rfl rfl rfl)))
def Qa (s:A0)(place:Bool)(t:A0):Option Bool:=
 X6 s>>=fun x1=>
 (if (!x1)=true then X6 t else some default)>>=fun x2=>
 if (bif x1 then true else x2)=true then
  some (s.Kind == t.Kind)
 else
  (if place=true then S7 s t else some default)>>=fun x3=>
  some (bif place then x3 else false)
theorem Nm {s place t res}(hh:Qa s place t=some res):K0 C 138 [.agg (A0.cells s),.d (.bool place),.agg (A0.cells t)] [] (Ret [] (.d (.bool res))):=by
 unfold Qa at hh
 obtain ⟨x1,hx1,hh⟩:=bs' hh
 obtain ⟨x2,hx2,hh⟩:=bs' hh
 refine K0.intro hC Tryz.func138 rfl rfl rfl (s' rfl rfl (E0.n hC rfl (E0.n hC rfl (e' rfl (S' (sg' 6 rfl (a0' rfl (AG.c rfl rfl (fun _=>trivial) (fun _=>Si hx1) (G' 2 rfl (AG.c rfl rfl (fun hg=>⟨hg,trivial⟩) (fun hw=>Si (G1 hw hx2)) (po' rfl (an' (n' (ci' rfl hh (fun hh=>?_) (fun hh=>?_)))))))))))))))
 ·cases hh
  exact t' rfl (re' (rt' rfl rfl rfl))
 obtain ⟨x3,hx3,hh⟩:=bs' hh
 cases hh
 exact sk' (sg' 7 rfl (G' 4 rfl (AG.c rfl rfl (fun hg=>⟨hg,hg,trivial⟩) (fun hw=>Qv (G1 hw hx3)) (pa' rfl (a0' rfl (an' (n' (re' (rt' rfl rfl rfl)))))))))
def Tb (s:T0)(e:D0)(t:A0):Option Int:=
 V7 s e>>=fun x1=>
 if (x1.2 != 0)=true then
  some x1.2
 else
  Dq e>>=fun x2=>
  Qa x1.1 x2 t>>=fun x3=>
  if (!x3)=true then
   some 9
  else
   some 0
theorem Ro {s e t res}(hh:Tb s e t=some res):K0 C 76 [.agg (T0.cells s),.agg (D0.cells e),.agg (A0.cells t)] [] (Ret [] (.d (.int .i64 res))):=by
 unfold Tb at hh
 obtain ⟨x1,hx1,hh⟩:=bs' hh
 refine K0.intro hC Tryz.func76 rfl rfl rfl (s' rfl rfl (E0.n hC rfl (E0.n hC rfl (E0.n hC rfl (e' rfl (p' 2 rfl (c' (Bm hx1) rfl rfl (o' 3 rfl (E0.nf hC rfl (E0.s hC rfl (e' rfl (S' (t' rfl (ci' rfl hh (fun hh=>?_) (fun hh=>?_)))))))))))))))
 ·cases hh
  exact t' rfl (re' (rt' rfl rfl rfl))
 obtain ⟨x2,hx2,hh⟩:=bs' hh
 obtain ⟨x3,hx3,hh⟩:=bs' hh
 refine sk' (S' (S' (AEx.draw hC 6 rfl rfl rfl (O' 2 rfl (Qc' (H1g hx2) rfl rfl (Q' rfl (Qc' (Nm hx3) rfl rfl (E' rfl (n' (ci' rfl hh (fun hh=>?_) (fun hh=>?_)))))))))))
 ·cases hh
  exact t' rfl (re' (rt' rfl rfl rfl))
 cases hh
 exact sk' (t' rfl (re' (rt' rfl rfl rfl)))
def W7 (p:I0)(i:Int)(o3_Vars:List J0)(o3_Taken:List Str)(x1:B0)(k:Int):Option (T0×Int):=
 if (decide (k < ((x1.Params++x1.Vars).length:Int)))=true then
  idx (x1.Params++x1.Vars) k>>=fun x3=>
  T8 p i x3.TypeV>>=fun x4=>
  if (x4.2 != 0)=true then
   some ((T0.mk (I0.mk [] []) 0 [] []),x4.2)
  else
   idx (x1.Params++x1.Vars) k>>=fun x5=>
   if (decide ((o3_Vars.length+1) * 121≤140737488355328))=true then
    idx (x1.Params++x1.Vars) k>>=fun x6=>
    if (decide ((o3_Taken.length+1) * 17≤140737488355328))=true then
     W7 p i (o3_Vars++[(J0.mk x5.Name x4.1 false)]) (o3_Taken++[x6.Name]) x1 (IntKind.i64.wrap (k+1))
    else none
   else none
 else
  some ((T0.mk p i o3_Vars o3_Taken),0)
 partial_fixpoint
abbrev Lx (p:I0)(i:Int)(o3_Vars:List J0)(o3_Taken:List Str)(x1:B0)(k:Int)(res:T0×Int):Prop:=LM C 73 0 Tryz.f140 [1,1,1,1,0,1,4] [(1,.d (.int .i64 i)),(2,.ref 0 0),(4,.ref 1 0),(7,.ref 3 0),(8,.osl 7 (B0.rows (x1.Params++x1.Vars))),(9,.d (.int .i64 k))] [.row (I0.cells p) 25,.row [.full (B0.rows []),.full (C0.rows []),.d (.int .i64 0),.full (J0.rows []),.full (estr.rows [])] 78,.dead,.row [.d (.sl (B0.rows p.Decls)),.d (.sl (C0.rows p.Body)),.d (.int .i64 i),.osl 6 (J0.rows o3_Vars),.osl 5 (estr.rows o3_Taken)] 78,.dead,.tok 9 1,.tok 146 9,.tok 59 17] (Ret [] (.tup [.agg (T0.cells res.1),.d (.int .i64 res.2)]))
theorem E19 (p:I0)(i:Int)(x1:B0):(∀ o3_Vars o3_Taken k res,W7 p i o3_Vars o3_Taken x1 k=some res→Lx p i o3_Vars o3_Taken x1 k res):=by
 refine W7.partial_correctness p i x1 _ ?_
 ·intro g0 ih0 o3_Vars o3_Taken k res hh
  refine W0.unroll (S' (p' 2 rfl (qe' rfl trivial (B0.lenA _) (e' rfl (ci' rfl hh (fun hh=>?_) (fun hh=>?_))))))
  ·obtain ⟨x3,hx3,hh⟩:=bs' hh
   obtain ⟨x4,hx4,hh⟩:=bs' hh
   refine sk' (S' (bk' (S' ?_)))
   refine AEx.drawL hC 13 [12] [(11,8)] [[.row (I0.cells p) 25,.row [.full (B0.rows []),.full (C0.rows []),.d (.int .i64 0),.full (J0.rows []),.full (estr.rows [])] 78,.dead,.row [.d (.sl (B0.rows p.Decls)),.d (.sl (C0.rows p.Body)),.d (.int .i64 i),.osl 6 (J0.rows o3_Vars),.osl 5 (estr.rows o3_Taken)] 78,.dead,.tok 9 1,.tok 146 9,.tok 59 17,.row [.d (.int .i64 0),.d (.int .i64 0),.d (.int .i64 0),.d (.int .i64 0),.d (.str []),.full (estr.rows []),.full (A0.rows [])] 40],[.row (I0.cells p) 25,.row [.full (B0.rows []),.full (C0.rows []),.d (.int .i64 0),.full (J0.rows []),.full (estr.rows [])] 78,.dead,.row [.d (.sl (B0.rows p.Decls)),.d (.sl (C0.rows p.Body)),.d (.int .i64 i),.osl 6 (J0.rows o3_Vars),.osl 5 (estr.rows o3_Taken)] 78,.dead,.tok 9 1,.tok 146 9,.tok 59 17,.row (A0.cells x4.1) 40]] rfl rfl rfl rfl rfl rfl rfl rfl rfl rfl ?_
   refine AS.q hC rfl rfl rfl rfl (AS.q hC rfl rfl rfl rfl (AS.q hC rfl rfl rfl rfl (AS.q hC rfl rfl rfl rfl (AS.ix hC rfl (U0 hx3) (B0.idx hx3) rfl rfl rfl (AS.q hC rfl rfl rfl rfl (AS.q hC rfl rfl rfl rfl (AS.c (Ec hx4) rfl rfl rfl rfl (AS.q hC rfl rfl rfl rfl (AS.q hC rfl rfl rfl rfl (AS.q hC rfl rfl rfl rfl (AS.n hC rfl rfl rfl rfl (AS.s hC rfl rfl rfl rfl rfl rfl rfl (AS.nil ?_)))))))))))))
   refine e' rfl (S' (t' rfl (ci' rfl hh (fun hh=>?_) (fun hh=>?_))))
   ·refine s' rfl rfl (E0.bz hC rfl (q' rfl (E0.s hC rfl (e' rfl (re' ?_)))))
    obtain rfl:=oi' hh
    exact ⟨_,.tup [.agg [.d (.sl (B0.rows [])),.d (.sl (C0.rows [])),.d (.int .i64 0),.d (.sl (J0.rows [])),.d (.sl (estr.rows []))],.d (.int .i64 x4.2)],[],rfl,(.tupL ⟨(.aggL ⟨.full,.full,.rfl,.full,.full,trivial⟩),.rfl,trivial⟩),trivial,rfl,rfl,rfl,rfl⟩
   obtain ⟨x5,hx5,hh⟩:=bs' hh
   obtain ⟨c32,hh⟩:=I1 hh
   obtain ⟨x6,hx6,hh⟩:=bs' hh
   obtain ⟨c33,hh⟩:=I1 hh
   refine sk' (S' (AEx.draw hC 10 rfl rfl rfl (O' 4 rfl (AQ.i hC rfl (U0 hx5) (B0.idx hx5) rfl (O' 4 rfl (AQ.be hC rfl (J0.rows_map [(J0.mk x5.Name x4.1 false)]).symm (Qn' ?_)))))))
   refine E0.ap hC rfl (rs:=J0.rows (o3_Vars++[(J0.mk x5.Name x4.1 false)])) (J0.app o3_Vars [(J0.mk x5.Name x4.1 false)]) (J0.sz o3_Vars) (J0.sz [(J0.mk x5.Name x4.1 false)]) (E4 (J0.len o3_Vars) (J0.len [(J0.mk x5.Name x4.1 false)]) c32) (q' rfl (E0.s hC rfl (n' ?_)))
   refine AEx.draw hC 8 rfl rfl rfl (O' 4 rfl (AQ.i hC rfl (U0 hx6) (B0.idx hx6) rfl (O' 2 rfl (AQ.be hC rfl (estr.rows_map [x6.Name]).symm (Qn' (E0.ap hC rfl (rs:=estr.rows (o3_Taken++[x6.Name])) (estr.app o3_Taken [x6.Name]) (estr.sz o3_Taken) (estr.sz [x6.Name]) (E4 (estr.len o3_Taken) (estr.len [x6.Name]) c33) (q' rfl (E0.s hC rfl (n' (T' rfl ?_))))))))))
   refine W0.wk ?_ (ih0 _ _ _ _ hh)
   exact ⟨⟨⟨.rfl,rfl⟩,⟨.rfl,rfl⟩,⟨.rfl,rfl⟩,⟨.rfl,rfl⟩,⟨.rfl,rfl⟩,⟨.rfl,rfl⟩,trivial⟩,⟨⟨rfl,.refl _,rfl⟩,⟨rfl,.refl _,rfl⟩,trivial,⟨rfl,.refl _,rfl⟩,trivial,rfl,rfl,rfl,trivial⟩,rfl⟩
  refine ex' (p' 1 rfl (E0.s hC rfl (e' rfl (re' ?_))))
  obtain rfl:=oi' hh
  exact ⟨_,.tup [.agg [.d (.sl (B0.rows p.Decls)),.d (.sl (C0.rows p.Body)),.d (.int .i64 i),.d (.sl (J0.rows o3_Vars)),.d (.sl (estr.rows o3_Taken))],.d (.int .i64 0)],[],rfl,(.tupL ⟨(.aggL ⟨.rfl,.rfl,.rfl,.osl,.osl,trivial⟩),.rfl,trivial⟩),trivial,rfl,rfl,rfl,rfl⟩
theorem O1b {p i o3_Vars o3_Taken x1 k res}(hh:W7 p i o3_Vars o3_Taken x1 k=some res):Lx p i o3_Vars o3_Taken x1 k res:=(E19 p i x1) _ _ _ _ hh
def Mk (p:I0)(i:Int):Option (T0×Int):=
 idx p.Decls i>>=fun x1=>
 Jm p>>=fun x2=>
 if (decide ((0+x1.Params.length) * 257≤140737488355328))=true then
  if (decide ((x1.Params.length+x1.Vars.length) * 257≤140737488355328))=true then
   W7 p i [] x2 x1 0
  else none
 else none
theorem I1j {p i res}(hh:Mk p i=some res):K0 C 140 [.agg (I0.cells p),.d (.int .i64 i)] [] (Ret [] (.tup [.agg (T0.cells res.1),.d (.int .i64 res.2)])):=by
 unfold Mk at hh
 obtain ⟨x1,hx1,hh⟩:=bs' hh
 obtain ⟨x2,hx2,hh⟩:=bs' hh
 obtain ⟨c30,hh⟩:=I1 hh
 obtain ⟨c31,hh⟩:=I1 hh
 refine K0.intro hC Tryz.func140 rfl rfl rfl (s' rfl rfl (E0.n hC rfl (E0.nf hC rfl (e' rfl (p' 3 rfl (i' rfl (U0 hx1) (B0.idx hx1) rfl (q' rfl (E0.nf hC rfl (E0.s hC rfl (n' (S' ?_)))))))))))
 refine AEx.drawL hC 6 [3] [(5,3)] [[.row (I0.cells p) 25,.row [.full (B0.rows []),.full (C0.rows []),.d (.int .i64 0),.full (J0.rows []),.full (estr.rows [])] 78,.row (B0.cells x1) 59,.row [.full (B0.rows []),.full (C0.rows []),.d (.int .i64 0),.full (J0.rows []),.full (estr.rows [])] 78],[.row (I0.cells p) 25,.row [.full (B0.rows []),.full (C0.rows []),.d (.int .i64 0),.full (J0.rows []),.full (estr.rows [])] 78,.row (B0.cells x1) 59,.row [.full (B0.rows []),.full (C0.rows []),.d (.int .i64 0),.full (J0.rows []),.full (estr.rows [])] 78,.dead,.tok 9 1]] rfl rfl rfl rfl rfl rfl rfl rfl rfl rfl ?_
 refine AS.q hC rfl rfl rfl rfl (AS.q hC rfl rfl rfl rfl (AS.q hC rfl rfl rfl rfl (AS.g [] (Gu hx2) rfl rfl rfl rfl rfl rfl rfl rfl rfl rfl rfl rfl (AS.a rfl (fun H=>AQ.bz hC rfl (AQ.nil rfl)) rfl rfl (AS.n hC rfl rfl rfl rfl (AS.nil (E0.s hC rfl (E0.tokC 3 3 146 9 rfl rfl rfl rfl rfl (n' (S' ?_))))))))))
 refine AEx.drawL hC 6 [3] [] [[.row (I0.cells p) 25,.row [.full (B0.rows []),.full (C0.rows []),.d (.int .i64 0),.full (J0.rows []),.full (estr.rows [])] 78,.row (B0.cells x1) 59,.row [.d (.sl (B0.rows p.Decls)),.d (.sl (C0.rows p.Body)),.d (.int .i64 i),.osl 6 (J0.rows []),.osl 5 (estr.rows x2)] 78,.dead,.tok 9 1,.tok 146 9],[.row (I0.cells p) 25,.row [.full (B0.rows []),.full (C0.rows []),.d (.int .i64 0),.full (J0.rows []),.full (estr.rows [])] 78,.row (B0.cells x1) 59,.row [.d (.sl (B0.rows p.Decls)),.d (.sl (C0.rows p.Body)),.d (.int .i64 i),.osl 6 (J0.rows []),.osl 5 (estr.rows x2)] 78,.dead,.tok 9 1,.tok 146 9,.tok 59 17]] rfl rfl rfl rfl rfl rfl rfl rfl rfl rfl ?_
 refine AS.a rfl (fun H=>AQ.be hC rfl (B0.rows_map []).symm (AQ.nil rfl)) rfl rfl (AS.q hC rfl rfl rfl rfl (AS.q hC rfl rfl rfl rfl (AS.am hC rfl rfl rfl rfl rfl (rs:=B0.rows x1.Params) rfl (B0.sz []) (B0.sz x1.Params) (E4 (B0.len []) (B0.len x1.Params) c30) rfl rfl (AS.q hC rfl rfl rfl rfl (AS.q hC rfl rfl rfl rfl (AS.nil ?_))))))
 refine E0.ap hC rfl (rs:=B0.rows (x1.Params++x1.Vars)) (B0.app x1.Params x1.Vars) (B0.sz x1.Params) (B0.sz x1.Vars) (E4 (B0.len x1.Params) (B0.len x1.Vars) c31) (e' rfl (S' (t' rfl (bk' ?_))))
 refine AEx.ofLoop ?_
 refine W0.wk ?_ (O1b hh)
 exact ⟨⟨⟨.rfl,rfl⟩,⟨.rfl,rfl⟩,⟨.rfl,rfl⟩,⟨.rfl,rfl⟩,⟨.rfl,rfl⟩,⟨.rfl,rfl⟩,trivial⟩,⟨⟨rfl,.refl _,rfl⟩,⟨rfl,.refl _,rfl⟩,trivial,⟨rfl,.refl _,rfl⟩,trivial,rfl,rfl,rfl,trivial⟩,rfl⟩
def Jl (e:D0):Option Str:=
 if (bif (e.Op == 3) then true else (((e.Kids).length:Int) == 0))=true then
  some e.Name
 else
  idx e.Kids 0>>=fun x1=>
  Jl x1>>=fun x2=>
  some x2
 partial_fixpoint
abbrev P1b (e:D0)(res:Str):Prop:=K0 C 194 [.agg (D0.cells e)] [] (Ret [] (.d (.str res)))
theorem Q1l:(∀ e res,Jl e=some res→P1b e res):=by
 refine Jl.partial_correctness _ ?_
 ·intro g0 ih0 e res hh
  refine K0.intro hC Tryz.func194 rfl rfl rfl (s' rfl rfl (E0.n hC rfl (e' rfl (S' (sg' 9 rfl (G' 5 rfl (a1' rfl (AG.qe hC rfl (fun hg=>⟨⟨hg,trivial⟩,trivial⟩) (D0.lenA _) (a1' rfl (po' rfl (an' (n' (ci' rfl hh (fun hh=>?_) (fun hh=>?_))))))))))))))
  ·cases hh
   exact t' rfl (re' (rt' rfl rfl rfl))
  obtain ⟨x1,hx1,hh⟩:=bs' hh
  obtain ⟨x2,hx2,hh⟩:=bs' hh
  cases hh
  exact sk' (p' 2 rfl (i' rfl (U0 hx1) (D0.idx hx1) rfl (q' rfl (c' (ih0 _ _ hx2) rfl rfl (e' rfl (re' (rt' rfl rfl rfl)))))))
theorem F1o {e res}(hh:Jl e=some res):P1b e res:=(Q1l) _ _ hh
def Jj (s:T0)(e:D0):Option (A0×Int):=
 V7 s e>>=fun x1=>
 if (x1.2 != 0)=true then
  some ((A0.mk 0 0 0 0 [] [] []),x1.2)
 else
  Jl e>>=fun x2=>
  Ag s x2>>=fun x3=>
  if x3.1.Fixed=true then
   some ((A0.mk 0 0 0 0 [] [] []),15)
  else
   some (x1.1,0)
theorem Hu {s e res}(hh:Jj s e=some res):K0 C 141 [.agg (T0.cells s),.agg (D0.cells e)] [] (Ret [] (.tup [.agg (A0.cells res.1),.d (.int .i64 res.2)])):=by
 unfold Jj at hh
 obtain ⟨x1,hx1,hh⟩:=bs' hh
 refine K0.intro hC Tryz.func141 rfl rfl rfl (s' rfl rfl (E0.n hC rfl (E0.n hC rfl (E0.nf hC rfl (e' rfl (p' 2 rfl (c' (Bm hx1) rfl rfl (o' 3 rfl (E0.nf hC rfl (E0.s hC rfl (e' rfl (S' (t' rfl (ci' rfl hh (fun hh=>?_) (fun hh=>?_)))))))))))))))
 ·cases hh
  exact p' 2 rfl (E0.s hC rfl (e' rfl (re' (rt' rfl rfl rfl))))
 obtain ⟨x2,hx2,hh⟩:=bs' hh
 obtain ⟨x3,hx3,hh⟩:=bs' hh
 refine sk' (S' ?_)
 refine AEx.drawL hC 9 [8] [(7,4)] [[.row (T0.cells s) 78,.row (D0.cells e) 34,.row [.d (.int .i64 0),.d (.int .i64 0),.d (.int .i64 0),.d (.int .i64 0),.d (.str []),.full (estr.rows []),.full (A0.rows [])] 40,.row (A0.cells x1.1) 40,.row [.d (.str []),.d (.int .i64 0),.d (.int .i64 0),.d (.int .i64 0),.d (.int .i64 0),.d (.str []),.full (estr.rows []),.full (A0.rows []),.d (.bool false)] 146],[.row (T0.cells s) 78,.row (D0.cells e) 34,.row [.d (.int .i64 0),.d (.int .i64 0),.d (.int .i64 0),.d (.int .i64 0),.d (.str []),.full (estr.rows []),.full (A0.rows [])] 40,.row (A0.cells x1.1) 40,.row (J0.cells x3.1) 146]] rfl rfl rfl rfl rfl rfl rfl rfl rfl rfl ?_
 refine AS.q hC rfl rfl rfl rfl (AS.q hC rfl rfl rfl rfl (AS.c (F1o hx2) rfl rfl rfl rfl (AS.c (L17 hx3) rfl rfl rfl rfl (AS.q hC rfl rfl rfl rfl (AS.q hC rfl rfl rfl rfl (AS.q hC rfl rfl rfl rfl (AS.n hC rfl rfl rfl rfl (AS.s hC rfl rfl rfl rfl rfl rfl rfl (AS.nil (e' rfl (S' (t' rfl (ci' rfl hh (fun hh=>?_) (fun hh=>?_))))))))))))))
 ·cases hh
  exact p' 1 rfl (E0.s hC rfl (e' rfl (re' (rt' rfl rfl rfl))))
 cases hh
 exact sk' (p' 1 rfl (E0.s hC rfl (e' rfl (re' (rt' rfl rfl rfl)))))
def N7 (p:I0)(kind:Int)(name:Str)(n:Int)(i:Int):Option Int:=
 if (decide (i < n))=true then
  idx p.Decls i>>=fun x1=>
  (if (x1.Kind == kind)=true then idx p.Decls i else some default)>>=fun x2=>
  if (bif (x1.Kind == kind) then (x2.Name == name) else false)=true then
   some i
  else
   N7 p kind name n (IntKind.i64.wrap (i+1))
 else
  some (-1)
 partial_fixpoint
abbrev Qt (p:I0)(kind:Int)(name:Str)(n:Int)(i:Int)(res:Int):Prop:=LM C 34 0 Tryz.f166 [1,0,1,4] [(1,.d (.int .i64 kind)),(2,.d (.str name)),(3,.d (.int .i64 n)),(4,.ref 0 0),(9,.d (.int .i64 i))] [.row (I0.cells p) 25] (Ret [] (.d (.int .i64 res)))
theorem H14 (p:I0)(kind:Int)(name:Str)(n:Int):(∀ i res,N7 p kind name n i=some res→Qt p kind name n i res):=by
 refine N7.partial_correctness p kind name n _ ?_
 ·intro g0 ih0 i res hh
  refine W0.unroll (S' (t' rfl (ci' rfl hh (fun hh=>?_) (fun hh=>?_))))
  ·obtain ⟨x1,hx1,hh⟩:=bs' hh
   obtain ⟨x2,hx2,hh⟩:=bs' hh
   refine sk' (S' (bk' (sg' 18 rfl (G' 3 rfl (AG.i hC rfl rfl (fun _=>trivial) (fun hw=>⟨U0 hx1,B0.idx hx1,rfl⟩) (G' 6 rfl (a1' rfl (a0' rfl (AG.i hC rfl rfl (fun hg=>⟨hg,hg,trivial⟩) (fun hw=>⟨U0 (G1 hw hx2),B0.idx (G1 hw hx2),rfl⟩) (a1' rfl (a1' rfl (a0' rfl (a2' rfl ?_)))))))))))))
   refine pa' rfl (an' (n' (ci' rfl hh (fun hh=>?_) (fun hh=>?_))))
   ·cases hh
    exact t' rfl (re' (rt' rfl rfl rfl))
   exact sk' (T' rfl (lw' (ih0 _ _ hh) rfl rfl rfl))
  cases hh
  exact ex' (t' rfl (re' (rt' rfl rfl rfl)))
theorem N16 {p kind name n i res}(hh:N7 p kind name n i=some res):Qt p kind name n i res:=(H14 p kind name n) _ _ hh
end Go.Proofs.YtdkabnfphmmmnaaGreatDoor

