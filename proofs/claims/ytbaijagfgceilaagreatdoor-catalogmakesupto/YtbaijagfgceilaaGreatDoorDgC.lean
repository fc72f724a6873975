/- A part of the proof of CatalogMakes. -/
import Derived.Test.YtbaijagfgceilaaGreatDoorDgB
import Derived.Test.YtbaijagfgceilaaGreatDoorAmB
set_option maxRecDepth 100000
set_option maxHeartbeats 4000000
set_option synthInstance.maxSize 20000
set_option linter.unusedVariables false
namespace Go.Proofs.YtbaijagfgceilaaGreatDoor
open Go.Am
def Mb (l:List I0)(atV:Int):Option (S0×Int×Bool):=
 V6 l [] atV
theorem W1b {l atV res}(a:Mb l atV=some res):L0 C 40 [.d (.sl (I0.rows l)),.d (.int .i64 atV)] [] (Ret [] (.tup [.agg (S0.cells res.1),.d (.int .i64 res.2.1),.d (.bool res.2.2)])):=by
 unfold Mb at a
 exact L0.intro hC Tryz.func40 R R R (s' R R (E0.nf hC R (e' R (s' R R (E0.bz hC R (E0.nf hC R (E0.s hC R (E0.tokC 1 0 82 17 R R R R R (n' (S' (bk' (fq (K16 a) R))))))))))))
def Nm (text:Str)(l:List I0)(atV:Int):Option Int:=
 if (decide (atV < ((l).length:Int)))=true then
  idx l atV>>=fun x1=>
  some x1.At
 else
  some ((text).length:Int)
theorem E1e {text l atV res}(a:Nm text l atV=some res):L0 C 41 [.d (.str text),.d (.sl (I0.rows l)),.d (.int .i64 atV)] [] (Ret [] (.d (.int .i64 res))):=by
 unfold Nm at a
 refine L0.intro hC Tryz.func41 R R R (t' R (S' (p' 2 R (qe' R trivial (I0.lenA _) (e' R (ci' R a (fun a=>?_) (fun a=>?_)))))))
 ·obtain ⟨x1,b,a⟩:=bs' a
  cases a
  exact p' 2 R (i' R (D1 b) (I0.idx b) R (e' R (re' (rq R))))
 cases a
 exact sk' (t' R (re' (rq R)))
def Fj (k:Int):Option Bool:=
 some (bif (decide (k≥0)) then (decide (k≤6)) else false)
theorem Ev {k res}(a:Fj k=some res):L0 C 123 [.d (.int .i64 k)] [] (Ret [] (.d (.bool res))):=by
 unfold Fj at a
 cases a
 exact L0.intro hC Tryz.func123 R R R (t' R (sg' 7 R (G' 4 R (a1' R (pa' R (a0' R (an' (n' (re' (rq R))))))))))
def Gj (t:F0):Option Bool:=
 R8 t (F0.mk 0 0 0 0 [] [] [])>>=fun x1=>
 some x1
theorem H1a {t res}(a:Gj t=some res):L0 C 218 [.agg (F0.cells t)] [] (Ret [] (.d (.bool res))):=by
 unfold Gj at a
 obtain ⟨x1,b,a⟩:=bs' a
 cases a
 exact L0.intro hC Tryz.func218 R R R (s' R R (E0.n hC R (e' R (p' 2 R (cq (Wt b) R (e' R (re' (rq R))))))))
mutual
def Qa (t:F0):Option Int:=
 Jc t 1 0
 partial_fixpoint
def Jc (t:F0)(n:Int)(i:Int):Option Int:=
 if (decide (i < ((t.Of).length:Int)))=true then
  idx t.Of i>>=fun x1=>
  Qa x1>>=fun x2=>
  Jc t (IntKind.i64.wrap (n+x2)) (IntKind.i64.wrap (i+1))
 else
  some n
 partial_fixpoint
end
abbrev Fv (t:F0)(res:Int):Prop:=L0 C 219 [.agg (F0.cells t)] [] (Ret [] (.d (.int .i64 res)))
abbrev Z13 (t:F0)(n:Int)(i:Int)(res:Int):Prop:=LM C 21 0 Tryz.f219 [1,1,0,1,4] [(1,.ref 0 0),(3,.d (.int .i64 n)),(4,.d (.int .i64 i))] [.row (F0.cells t) 76] (Ret [] (.d (.int .i64 res)))
theorem L16:(∀ t a,Qa t=some a→Fv t a)∧(∀ t n i a,Jc t n i=some a→Z13 t n i a):=by
 refine Qa.mutual_partial_correctness _ _ ?_ ?_
 ·intro g c t a b
  exact L0.intro hC Tryz.func219 R R R (s' R R (E0.n hC R (e' R (t' R (S' (t' R (bk' (fq (c _ _ _ _ b) R))))))))
 ·intro h g f c t n i a b
  refine Y0.unroll (S' (p' 3 R (qe' R trivial (F0.lenA _) (e' R (ci' R b (fun b=>?_) (fun b=>?_))))))
  ·obtain ⟨x1,d,b⟩:=bs' b
   obtain ⟨x2,e,b⟩:=bs' b
   exact sk' (S' (bk' (P' 4 R (i' R (D1 d) (F0.idx d) R (q' R (cq (f _ _ e) R (e' R (T' R (lq (c _ _ _ _ b) R)))))))))
  cases b
  exact ex' (t' R (re' (rq R)))
theorem F18 {t res}(a:Qa t=some res):Fv t res:=(L16).1 _ _ a
mutual
def Ra (t:F0):Option Int:=
 P9 t 0 0
 partial_fixpoint
def P9 (t:F0)(d:Int)(i:Int):Option Int:=
 if (decide (i < ((t.Of).length:Int)))=true then
  idx t.Of i>>=fun x1=>
  Ra x1>>=fun x2=>
  if (decide (x2 > d))=true then
   P9 t x2 (IntKind.i64.wrap (i+1))
  else
   P9 t d (IntKind.i64.wrap (i+1))
 else
  some (IntKind.i64.wrap (d+1))
 partial_fixpoint
end
abbrev Gv (t:F0)(res:Int):Prop:=L0 C 220 [.agg (F0.cells t)] [] (Ret [] (.d (.int .i64 res)))
abbrev A14 (t:F0)(d:Int)(i:Int)(res:Int):Prop:=LM C 25 0 Tryz.f220 [1,1,0,1,4] [(1,.ref 0 0),(3,.d (.int .i64 d)),(4,.d (.int .i64 i))] [.row (F0.cells t) 76] (Ret [] (.d (.int .i64 res)))
theorem M16:(∀ t a,Ra t=some a→Gv t a)∧(∀ t d i a,P9 t d i=some a→A14 t d i a):=by
 refine Ra.mutual_partial_correctness _ _ ?_ ?_
 ·intro h c t a b
  exact L0.intro hC Tryz.func220 R R R (s' R R (E0.n hC R (e' R (t' R (S' (t' R (bk' (fq (c _ _ _ _ b) R))))))))
 ·intro j h g c t d i a b
  refine Y0.unroll (S' (p' 3 R (qe' R trivial (F0.lenA _) (e' R (ci' R b (fun b=>?_) (fun b=>?_))))))
  ·obtain ⟨x1,e,b⟩:=bs' b
   obtain ⟨x2,f,b⟩:=bs' b
   refine sk' (S' (bk' (p' 3 R (i' R (D1 e) (F0.idx e) R (q' R (cq (g _ _ f) R (e' R (t' R (ci' R b (fun b=>?_) (fun b=>?_))))))))))
   ·exact T' R (T' R (lq (c _ _ _ _ b) R))
   exact sk' (T' R (lq (c _ _ _ _ b) R))
  cases b
  exact ex' (t' R (re' (rq R)))
theorem G18 {t res}(a:Ra t=some res):Gv t res:=(M16).1 _ _ a
def M8 (s:O0)(d:Int):Option O0:=
 if (decide (d > s.depth))=true then
  some (O0.mk s.nodes d)
 else
  some s
theorem Ak {s d res}(a:M8 s d=some res):L0 C 189 [.agg (O0.cells s),.d (.int .i64 d)] [] (Ret [] (.agg (O0.cells res))):=by
 unfold M8 at a
 refine L0.intro hC Tryz.func189 R R R (s' R R (E0.n hC R (E0.n hC R (n' (S' (t' R (ci' R a (fun a=>?_) (fun a=>?_))))))))
 ·cases a
  exact P' 2 R (E0.s hC R (n' (p' 1 R (E0.s hC R (n' (re' (rq R)))))))
 cases a
 exact sk' (p' 1 R (E0.s hC R (n' (re' (rq R)))))
def Tk (s:O0)(t:F0)(Id:Bool):Option O0:=
 (if (!Id)=true then Gj t else some default)>>=fun x1=>
 if (bif (!Id) then x1 else false)=true then
  some s
 else
  Qa t>>=fun x2=>
  Ra t>>=fun x3=>
  M8 (O0.mk (IntKind.i64.wrap (s.nodes+x2)) s.depth) x3>>=fun x4=>
  some x4
theorem X1b {s t Id res}(a:Tk s t Id=some res):L0 C 191 [.agg (O0.cells s),.agg (F0.cells t),.d (.bool Id)] [] (Ret [] (.agg (O0.cells res))):=by
 unfold Tk at a
 obtain ⟨x1,f,a⟩:=bs' a
 refine L0.intro hC Tryz.func191 R R R (s' R R (E0.n hC R (E0.n hC R (E0.n hC R (n' (S' (sg' 6 R (G' 4 R (AG.c R R (fun hg=>⟨hg,trivial⟩) (fun h=>H1a (G1 h f)) (pa' R (an' (n' (ci' R a (fun a=>?_) (fun a=>?_))))))))))))))
 ·cases a
  exact p' 1 R (E0.s hC R (n' (re' (rq R))))
 obtain ⟨x2,b,a⟩:=bs' a
 obtain ⟨j,g,a⟩:=bs' a
 obtain ⟨i,e,a⟩:=bs' a
 cases a
 refine sk' (S' (AEx.draw hC 6 R R R (O' 3 R (Qc' (F18 b) R R (E' R (E0.s hC R (n' (S' (AEx.draw hC 4 R R R (O' 2 R (Qc' (G18 g) R R (Qc' (Ak e) R R (Qn' ?_)))))))))))))
 exact E0.s hC R (n' (re' (rq R)))
def Rf (k:Int):Option Bool:=
 some (bif (k == 5) then true else (k == 6))
theorem Om {k res}(a:Rf k=some res):L0 C 125 [.d (.int .i64 k)] [] (Ret [] (.d (.bool res))):=by
 unfold Rf at a
 cases a
 exact L0.intro hC Tryz.func125 R R R (t' R (sg' 7 R (G' 4 R (a1' R (po' R (a0' R (an' (n' (re' (rq R))))))))))
def Kc (e:A0):Option Bool:=
 Y5 e (A0.mk 0 0 [] [])>>=fun x1=>
 some x1
theorem Ji {e res}(a:Kc e=some res):L0 C 127 [.agg (A0.cells e)] [] (Ret [] (.d (.bool res))):=by
 unfold Kc at a
 obtain ⟨x1,b,a⟩:=bs' a
 cases a
 exact L0.intro hC Tryz.func127 R R R (s' R R (E0.n hC R (e' R (p' 2 R (cq (Ze b) R (e' R (re' (rq R))))))))
mutual
def Sa (e:A0):Option Int:=
 Lc e 1 0
 partial_fixpoint
def Lc (e:A0)(n:Int)(i:Int):Option Int:=
 if (decide (i < ((e.Kids).length:Int)))=true then
  idx e.Kids i>>=fun x1=>
  Sa x1>>=fun x2=>
  Lc e (IntKind.i64.wrap (n+x2)) (IntKind.i64.wrap (i+1))
 else
  some n
 partial_fixpoint
end
abbrev Hv (e:A0)(res:Int):Prop:=L0 C 216 [.agg (A0.cells e)] [] (Ret [] (.d (.int .i64 res)))
abbrev B14 (e:A0)(n:Int)(i:Int)(res:Int):Prop:=LM C 21 0 Tryz.f216 [1,1,0,1,4] [(1,.ref 0 0),(3,.d (.int .i64 n)),(4,.d (.int .i64 i))] [.row (A0.cells e) 80] (Ret [] (.d (.int .i64 res)))
theorem N16:(∀ e a,Sa e=some a→Hv e a)∧(∀ e n i a,Lc e n i=some a→B14 e n i a):=by
 refine Sa.mutual_partial_correctness _ _ ?_ ?_
 ·intro h c e a b
  exact L0.intro hC Tryz.func216 R R R (s' R R (E0.n hC R (e' R (t' R (S' (t' R (bk' (fq (c _ _ _ _ b) R))))))))
 ·intro j h g c e n i a b
  refine Y0.unroll (S' (p' 3 R (qe' R trivial (A0.lenA _) (e' R (ci' R b (fun b=>?_) (fun b=>?_))))))
  ·obtain ⟨x1,d,b⟩:=bs' b
   obtain ⟨x2,f,b⟩:=bs' b
   exact sk' (S' (bk' (P' 4 R (i' R (D1 d) (A0.idx d) R (q' R (cq (g _ _ f) R (e' R (T' R (lq (c _ _ _ _ b) R)))))))))
  cases b
  exact ex' (t' R (re' (rq R)))
theorem H18 {e res}(a:Sa e=some res):Hv e res:=(N16).1 _ _ a
mutual
def Ua (e:A0):Option Int:=
 Q9 e 0 0
 partial_fixpoint
def Q9 (e:A0)(d:Int)(i:Int):Option Int:=
 if (decide (i < ((e.Kids).length:Int)))=true then
  idx e.Kids i>>=fun x1=>
  Ua x1>>=fun x2=>
  if (decide (x2 > d))=true then
   Q9 e x2 (IntKind.i64.wrap (i+1))
  else
   Q9 e d (IntKind.i64.wrap (i+1))
 else
  some (IntKind.i64.wrap (d+1))
 partial_fixpoint
end
abbrev Iv (e:A0)(res:Int):Prop:=L0 C 217 [.agg (A0.cells e)] [] (Ret [] (.d (.int .i64 res)))
abbrev C14 (e:A0)(d:Int)(i:Int)(res:Int):Prop:=LM C 25 0 Tryz.f217 [1,1,0,1,4] [(1,.ref 0 0),(3,.d (.int .i64 d)),(4,.d (.int .i64 i))] [.row (A0.cells e) 80] (Ret [] (.d (.int .i64 res)))
theorem O16:(∀ e a,Ua e=some a→Iv e a)∧(∀ e d i a,Q9 e d i=some a→C14 e d i a):=by
 refine Ua.mutual_partial_correctness _ _ ?_ ?_
 ·intro j c e a b
  exact L0.intro hC Tryz.func217 R R R (s' R R (E0.n hC R (e' R (t' R (S' (t' R (bk' (fq (c _ _ _ _ b) R))))))))
 ·intro k j h c e d i a b
  refine Y0.unroll (S' (p' 3 R (qe' R trivial (A0.lenA _) (e' R (ci' R b (fun b=>?_) (fun b=>?_))))))
  ·obtain ⟨x1,f,b⟩:=bs' b
   obtain ⟨x2,g,b⟩:=bs' b
   refine sk' (S' (bk' (p' 3 R (i' R (D1 f) (A0.idx f) R (q' R (cq (h _ _ g) R (e' R (t' R (ci' R b (fun b=>?_) (fun b=>?_))))))))))
   ·exact T' R (T' R (lq (c _ _ _ _ b) R))
   exact sk' (T' R (lq (c _ _ _ _ b) R))
  cases b
  exact ex' (t' R (re' (rq R)))
theorem I18 {e res}(a:Ua e=some res):Iv e res:=(O16).1 _ _ a
def Nb (s:O0)(e:A0)(Id:Bool):Option O0:=
 (if (!Id)=true then Kc e else some default)>>=fun x1=>
 if (bif (!Id) then x1 else false)=true then
  some s
 else
  Sa e>>=fun x2=>
  Ua e>>=fun x3=>
  M8 (O0.mk (IntKind.i64.wrap (s.nodes+x2)) s.depth) x3>>=fun x4=>
  some x4
theorem Bk {s e Id res}(a:Nb s e Id=some res):L0 C 190 [.agg (O0.cells s),.agg (A0.cells e),.d (.bool Id)] [] (Ret [] (.agg (O0.cells res))):=by
 unfold Nb at a
 obtain ⟨x1,g,a⟩:=bs' a
 refine L0.intro hC Tryz.func190 R R R (s' R R (E0.n hC R (E0.n hC R (E0.n hC R (n' (S' (sg' 6 R (G' 4 R (AG.c R R (fun hg=>⟨hg,trivial⟩) (fun i=>Ji (G1 i g)) (pa' R (an' (n' (ci' R a (fun a=>?_) (fun a=>?_))))))))))))))
 ·cases a
  exact p' 1 R (E0.s hC R (n' (re' (rq R))))
 obtain ⟨x2,b,a⟩:=bs' a
 obtain ⟨k,h,a⟩:=bs' a
 obtain ⟨j,f,a⟩:=bs' a
 cases a
 refine sk' (S' (AEx.draw hC 6 R R R (O' 3 R (Qc' (H18 b) R R (E' R (E0.s hC R (n' (S' (AEx.draw hC 4 R R R (O' 2 R (Qc' (I18 h) R R (Qc' (Ak f) R R (Qn' ?_)))))))))))))
 exact E0.s hC R (n' (re' (rq R)))
def Sf (v:Int):Option Bool:=
 some (bif (bif (v == 0) then true else (v == 1)) then true else (v == 2))
theorem Pm {v res}(a:Sf v=some res):L0 C 128 [.d (.int .i64 v)] [] (Ret [] (.d (.bool res))):=by
 unfold Sf at a
 cases a
 exact L0.intro hC Tryz.func128 R R R (t' R (sg' 11 R (G' 4 R (a1' R (po' R (G' 2 R (a1' R (po' R (a0' R (an' (n' (re' (rq R)))))))))))))
def Tf (v:Int):Option Bool:=
 some (bif (bif (bif (v == 0) then true else (v == 3)) then true else (v == 5)) then true else (v == 6))
theorem Qm {v res}(a:Tf v=some res):L0 C 130 [.d (.int .i64 v)] [] (Ret [] (.d (.bool res))):=by
 unfold Tf at a
 cases a
 refine L0.intro hC Tryz.func130 R R R (t' R (sg' 15 R (G' 4 R (a1' R (po' R (G' 2 R (a1' R (po' R (G' 2 R (a1' R (po' R (a0' R (an' ?_)))))))))))))
 exact n' (re' (rq R))
mutual
def Da (s:O0)(l:List C0)(d:Int):Option O0:=
 Ld l d s 0
 partial_fixpoint
def Ld (l:List C0)(d:Int)(o01:O0)(i:Int):Option O0:=
 if (decide (i < ((l).length:Int)))=true then
  idx l i>>=fun x1=>
  M8 (O0.mk (IntKind.i64.wrap (o01.nodes+1)) o01.depth) d>>=fun x2=>
  Sf x1.Verb>>=fun x3=>
  Nb x2 x1.Place x3>>=fun x4=>
  Tf x1.Verb>>=fun x5=>
  Nb x4 x1.Value x5>>=fun x6=>
  Zf l d x6 x1 i 0
 else
  some o01
 partial_fixpoint
def Zf (l:List C0)(d:Int)(o0:O0)(x1:C0)(i1:Int)(k:Int):Option O0:=
 if (decide (k < ((x1.Args).length:Int)))=true then
  idx x1.Args k>>=fun x7=>
  Nb o0 x7 true>>=fun x8=>
  Zf l d x8 x1 i1 (IntKind.i64.wrap (k+1))
 else
  Da o0 x1.Then (IntKind.i64.wrap (d+1))>>=fun x9=>
  Da x9 x1.Else (IntKind.i64.wrap (d+1))>>=fun x10=>
  Ld l d x10 (IntKind.i64.wrap (i1+1))
 partial_fixpoint
end
abbrev Px (s:O0)(l:List C0)(d:Int)(res:O0):Prop:=L0 C 121 [.agg (O0.cells s),.d (.sl (C0.rows l)),.d (.int .i64 d)] [] (Ret [] (.agg (O0.cells res)))
abbrev P16 (l:List C0)(d:Int)(o01:O0)(i:Int)(res:O0):Prop:=LM C 68 0 Tryz.f121 [1,0,1,4] [(1,.d (.sl (C0.rows l))),(2,.d (.int .i64 d)),(3,.ref 0 0),(6,.ref 1 0),(7,.d (.int .i64 i))] [.row (O0.cells o01) 134,.row [.d (.int .i64 0),.d (.int .i64 0)] 134] (Ret [] (.agg (O0.cells res)))
abbrev Q16 (l:List C0)(d:Int)(o0:O0)(x1:C0)(i1:Int)(k:Int)(res:O0):Prop:=LM C 68 0 Tryz.f121 [1,0,1,4,5,1,0,4,1,1,1,1,1,0,1,4] [(1,.d (.sl (C0.rows l))),(2,.d (.int .i64 d)),(3,.ref 0 0),(6,.ref 1 0),(7,.d (.int .i64 i1)),(8,.ref 2 0),(9,.d (.int .i64 k))] [.row (O0.cells o0) 134,.row [.d (.int .i64 0),.d (.int .i64 0)] 134,.row (C0.cells x1) 88] (Ret [] (.agg (O0.cells res)))
theorem J18:(∀ s l d b,Da s l d=some b→Px s l d b)∧(∀ l d e i b,Ld l d e i=some b→P16 l d e i b)∧(∀ l d p x1 v k b,Zf l d p x1 v k=some b→Q16 l d p x1 v k b):=by
 refine Da.mutual_partial_correctness _ _ _ ?_ ?_ ?_
 ·intro y f s l d b a
  exact L0.intro hC Tryz.func121 R R R (s' R R (E0.n hC R (E0.n hC R (n' (S' (t' R (bk' (fq (f _ _ _ _ _ a) R))))))))
 ·intro z c l d e i b a
  refine Y0.unroll (S' (p' 2 R (qe' R trivial (C0.lenA _) (e' R (ci' R a (fun a=>?_) (fun a=>?_))))))
  ·obtain ⟨x1,m,a⟩:=bs' a
   obtain ⟨x2,w,a⟩:=bs' a
   obtain ⟨G,q,a⟩:=bs' a
   obtain ⟨B,t,a⟩:=bs' a
   obtain ⟨F,o,a⟩:=bs' a
   obtain ⟨C,x,a⟩:=bs' a
   refine sk' (S' (bk' (p' 2 R (i' R (D1 m) (C0.idx m) R (q' R (E0.nf hC R (E0.s hC R (n' (p' 4 R (E0.s hC R (n' (p' 2 R (cq (Ak w) R ?_)))))))))))))
   refine E0.s hC R (n' (S' (AEx.draw hC 7 R R R (O' 5 R (Qc' (Pm q) R R (Qc' (Bk t) R R (Qn' (E0.s hC R (n' (S' (AEx.draw hC 7 R R R (O' 5 R (Qc' (Qm o) R R ?_)))))))))))))
   exact Qc' (Bk x) R R (Qn' (E0.s hC R (n' (S' (t' R (bk' (fq (c _ _ _ _ _ _ _ a) R)))))))
  cases a
  exact ex' (p' 1 R (E0.s hC R (n' (re' (rq R)))))
 ·intro H y z h f c l d p x1 v k b a
  refine Y0.unroll (S' (p' 3 R (qe' R trivial (A0.lenA _) (e' R (ci' R a (fun a=>?_) (fun a=>?_))))))
  ·obtain ⟨D,g,a⟩:=bs' a
   obtain ⟨I,u,a⟩:=bs' a
   exact sk' (S' (bk' (AEx.draw hC 7 R R R (O' 4 R (AQ.i hC R (D1 g) (A0.idx g) R (Q' R (Qc' (Bk u) R R (Qn' (E0.s hC R (n' (T' R (lq (c _ _ _ _ _ _ _ a) R))))))))))))
  obtain ⟨E,r,a⟩:=bs' a
  obtain ⟨A,j,a⟩:=bs' a
  exact ex' (p' 5 R (cq (h _ _ _ _ r) R (E0.s hC R (n' (P' 5 R (cq (h _ _ _ _ j) R (E0.s hC R (n' (T' R (lq (f _ _ _ _ _ a) R))))))))))
theorem Jv {s l d res}(a:Da s l d=some res):Px s l d res:=(J18).1 _ _ _ _ a
mutual
def Mc (s:O0)(l:List B0):Option O0:=
 Md l s 0
 partial_fixpoint
def Md (l:List B0)(o0:O0)(i:Int):Option O0:=
 if (decide (i < ((l).length:Int)))=true then
  idx l i>>=fun x1=>
  Fj x1.Kind>>=fun x2=>
  Tk (O0.mk (IntKind.i64.wrap (o0.nodes+1)) o0.depth) x1.TypeV x2>>=fun x3=>
  Rf x1.Kind>>=fun x4=>
  Nb x3 x1.Value x4>>=fun x5=>
  Mc x5 x1.Params>>=fun x6=>
  Mc x6 x1.Vars>>=fun x7=>
  Da x7 x1.Body 1>>=fun x8=>
  Md l x8 (IntKind.i64.wrap (i+1))
 else
  some o0
 partial_fixpoint
end
abbrev Qx (s:O0)(l:List B0)(res:O0):Prop:=L0 C 122 [.agg (O0.cells s),.d (.sl (B0.rows l))] [] (Ret [] (.agg (O0.cells res)))
abbrev R16 (l:List B0)(o0:O0)(i:Int)(res:O0):Prop:=LM C 48 0 Tryz.f122 [1,0,1,4] [(1,.d (.sl (B0.rows l))),(2,.ref 0 0),(4,.ref 1 0),(5,.d (.int .i64 i))] [.row (O0.cells o0) 134,.row [.d (.int .i64 0),.d (.int .i64 0)] 134] (Ret [] (.agg (O0.cells res)))
theorem K18:(∀ s l b,Mc s l=some b→Qx s l b)∧(∀ l h i b,Md l h i=some b→R16 l h i b):=by
 refine Mc.mutual_partial_correctness _ _ ?_ ?_
 ·intro q c s l b a
  exact L0.intro hC Tryz.func122 R R R (s' R R (E0.n hC R (E0.n hC R (n' (S' (t' R (bk' (fq (c _ _ _ _ a) R))))))))
 ·intro x q d c l h i b a
  refine Y0.unroll (S' (p' 2 R (qe' R trivial (B0.lenA _) (e' R (ci' R a (fun a=>?_) (fun a=>?_))))))
  ·obtain ⟨x1,e,a⟩:=bs' a
   obtain ⟨x2,o,a⟩:=bs' a
   obtain ⟨w,j,a⟩:=bs' a
   obtain ⟨r,k,a⟩:=bs' a
   obtain ⟨v,f,a⟩:=bs' a
   obtain ⟨t,p,a⟩:=bs' a
   obtain ⟨u,g,a⟩:=bs' a
   obtain ⟨y,m,a⟩:=bs' a
   refine sk' (S' (bk' (p' 2 R (i' R (D1 e) (B0.idx e) R (q' R (E0.nf hC R (E0.s hC R (n' (p' 4 R (E0.s hC R (n' (S' (AEx.draw hC 7 R R R ?_)))))))))))))
   refine O' 5 R (Qc' (Ev o) R R (Qc' (X1b j) R R (Qn' (E0.s hC R (n' (S' (AEx.draw hC 7 R R R (O' 5 R (Qc' (Om k) R R (Qc' (Bk f) R R (Qn' (E0.s hC R (n' ?_)))))))))))))
   exact p' 3 R (cq (d _ _ _ p) R (E0.s hC R (n' (p' 3 R (cq (d _ _ _ g) R (E0.s hC R (n' (P' 3 R (cq (Jv m) R (E0.s hC R (n' (T' R (lq (c _ _ _ _ a) R)))))))))))))
  cases a
  exact ex' (p' 1 R (E0.s hC R (n' (re' (rq R)))))
theorem I1a {s l res}(a:Mc s l=some res):Qx s l res:=(K18).1 _ _ _ a
def Xn (p:S0):Option O0:=
 Mc (O0.mk 0 0) p.Decls>>=fun x1=>
 Da x1 p.Body 1>>=fun x2=>
 some x2
theorem N1f {p res}(a:Xn p=some res):L0 C 78 [.agg (S0.cells p)] [] (Ret [] (.agg (O0.cells res))):=by
 unfold Xn at a
 obtain ⟨x1,c,a⟩:=bs' a
 obtain ⟨x2,b,a⟩:=bs' a
 cases a
 refine L0.intro hC Tryz.func78 R R R (s' R R (E0.n hC R (E0.n hC R (n' (S' (AEx.draw hC 7 R R R (O' 3 R (Qc' (I1a c) R R (O' 2 R (Qc' (Jv b) R R (Qn' (E0.s hC R (n' ?_)))))))))))))
 exact re' (rq R)
mutual
def Nc (t:F0):Option Bool:=
 if (bif (decide (t.Kind < 0)) then true else (decide (t.Kind > 4)))=true then
  some false
 else
  if (bif (bif (bif (bif (t.Kind != 1) then (bif (t.Low != 0) then true else (t.High != 0)) else false) then true else (bif (t.Kind != 2) then (t.Size != 0) else false)) then true else (bif (t.Kind != 4) then (!(t.Name == [])) else false)) then true else (bif (t.Kind != 3) then (((t.Names).length:Int) != 0) else false))=true then
   some false
  else
   if (bif (bif (bif (t.Kind == 2) then (((t.Of).length:Int) != 1) else false) then true else (bif (t.Kind == 3) then (bif (decide (((t.Of).length:Int) < 1)) then true else (((t.Of).length:Int) != ((t.Names).length:Int))) else false)) then true else (bif (bif (t.Kind != 2) then (t.Kind != 3) else false) then (((t.Of).length:Int) != 0) else false))=true then
    some false
   else
    Nd t 0
 partial_fixpoint
def Nd (t:F0)(i:Int):Option Bool:=
 if (decide (i < ((t.Of).length:Int)))=true then
  idx t.Of i>>=fun x1=>
  Nc x1>>=fun x2=>
  if (!x2)=true then
   some false
  else
   Nd t (IntKind.i64.wrap (i+1))
 else
  some true
 partial_fixpoint
end
abbrev Rx (t:F0)(res:Bool):Prop:=L0 C 124 [.agg (F0.cells t)] [] (Ret [] (.d (.bool res)))
abbrev S16 (t:F0)(i:Int)(res:Bool):Prop:=LM C 115 0 Tryz.f124 [1,1,1,1,0,1,4] [(1,.ref 0 0),(3,.d (.int .i64 i))] [.row (F0.cells t) 76] (Ret [] (.d (.bool res)))
theorem L18:(∀ t b,Nc t=some b→Rx t b)∧(∀ t i b,Nd t i=some b→S16 t i b):=by
 refine Nc.mutual_partial_correctness _ _ ?_ ?_
 ·intro g c t b a
  refine L0.intro hC Tryz.func124 R R R (s' R R (E0.n hC R (e' R (S' (sg' 8 R (G' 5 R (a1' R (a1' R (po' R (an' (n' (ci' R a (fun a=>?_) (fun a=>?_)))))))))))))
  ·cases a
   exact t' R (re' (rq R))
  refine sk' (S' (sg' 44 R (G' 5 R (a1' R (a1' R (a1' R (a0' R (a1' R (a1' R (pO' R (pa' R (G' 2 R (a1' R ?_)))))))))))))
  refine a1' R (a1' R (a0' R (a1' R (a1' R (pA' R (po' R (G' 2 R (a1' R (a1' R (a1' R (a0' R (a1' R (a1' R ?_)))))))))))))
  refine pA' R (po' R (G' 2 R (a1' R (a1' R (a1' R (a0' R (a1' R (AG.qe hC R (fun hg=>⟨⟨hg,trivial⟩,trivial⟩) (estr.lenA _) (a1' R (pA' R (po' R (an' (n' (ci' R a (fun a=>?_) (fun a=>?_)))))))))))))))
  ·cases a
   exact t' R (re' (rq R))
  refine sk' (S' (sg' 45 R (G' 5 R (a1' R (AG.qe hC R (fun hg=>⟨⟨hg,trivial⟩,trivial⟩) (F0.lenA _) (a1' R (pa' R (G' 2 R (a1' R (a1' R (a1' R (a0' R (a1' R ?_)))))))))))))
  refine AG.qe hC R (fun hg=>⟨⟨hg,trivial⟩,trivial⟩) (F0.lenA _) (a1' R (a1' R (a0' R (a1' R (AG.qe hC R (fun hg=>⟨⟨hg,trivial⟩,trivial⟩) (F0.lenA _) (a0' R (a1' R (AG.qe hC R (fun hg=>⟨⟨hg,trivial⟩,trivial⟩) (estr.lenA _) (a2' R (pO' R (pA' R (po' R (G' 2 R ?_)))))))))))))
  refine a1' R (a1' R (a1' R (a0' R (a1' R (a1' R (pA' R (a1' R (a0' R (a1' R (AG.qe hC R (fun hg=>⟨⟨hg,trivial⟩,trivial⟩) (F0.lenA _) (a1' R (pA' R (po' R ?_)))))))))))))
  refine an' (n' (ci' R a (fun a=>?_) (fun a=>?_)))
  ·cases a
   exact t' R (re' (rq R))
  exact sk' (S' (t' R (bk' (fq (c _ _ _ a) R))))
 ·intro h g f c t i b a
  refine Y0.unroll (S' (p' 3 R (qe' R trivial (F0.lenA _) (e' R (ci' R a (fun a=>?_) (fun a=>?_))))))
  ·obtain ⟨x1,d,a⟩:=bs' a
   obtain ⟨x2,e,a⟩:=bs' a
   refine sk' (S' (bk' (p' 3 R (i' R (D1 d) (F0.idx d) R (q' R (cq (f _ _ e) R (e' R (ci' R a (fun a=>?_) (fun a=>?_)))))))))
   ·cases a
    exact t' R (re' (rq R))
   exact sk' (T' R (lq (c _ _ _ a) R))
  cases a
  exact ex' (t' R (re' (rq R)))
theorem J1a {t res}(a:Nc t=some res):Rx t res:=(L18).1 _ _ a
def Jq (o:Int):Option Int:=
 if (bif (bif (bif (o == 0) then true else (o == 1)) then true else (o == 2)) then true else (o == 3))=true then
  some 0
 else
  if (bif (bif (o == 4) then true else (o == 6)) then true else (o == 7))=true then
   some 1
  else
   if (bif (o == 5) then true else (bif (decide (o≥8)) then (decide (o≤22)) else false))=true then
    some 2
   else
    if (o == 23)=true then
     some 3
    else
     some (-1)
theorem L1i {o res}(a:Jq o=some res):L0 C 192 [.d (.int .i64 o)] [] (Ret [] (.d (.int .i64 res))):=by
 unfold Jq at a
 refine L0.intro hC Tryz.func192 R R R (t' R (S' (sg' 14 R (G' 4 R (a1' R (po' R (G' 2 R (a1' R (po' R (G' 2 R (a1' R (po' R (an' ?_)))))))))))))
 refine n' (ci' R a (fun a=>?_) (fun a=>?_))
 ·cases a
  exact t' R (re' (rq R))
 refine sk' (S' (sg' 10 R (G' 4 R (a1' R (po' R (G' 2 R (a1' R (po' R (an' (n' (ci' R a (fun a=>?_) (fun a=>?_))))))))))))
 ·cases a
  exact t' R (re' (rq R))
 refine sk' (S' (sg' 10 R (G' 4 R (a1' R (a1' R (a0' R (a1' R (pA' R (po' R (an' (n' (ci' R a (fun a=>?_) (fun a=>?_)))))))))))))
 ·cases a
  exact t' R (re' (rq R))
 refine sk' (S' (t' R (ci' R a (fun a=>?_) (fun a=>?_))))
 ·cases a
  exact t' R (re' (rq R))
 cases a
 exact sk' (t' R (re' (rq R)))
def Sd (e:A0):Option Bool:=
 if (e.Op == 3)=true then
  some true
 else
  (if (bif (bif (e.Op == 4) then true else (e.Op == 5)) then (decide (((e.Kids).length:Int) > 0)) else false)=true then idx e.Kids 0 else some default)>>=fun x1=>
  (if (bif (bif (e.Op == 4) then true else (e.Op == 5)) then (decide (((e.Kids).length:Int) > 0)) else false)=true then Sd x1 else some default)>>=fun x2=>
  some (bif (bif (bif (e.Op == 4) then true else (e.Op == 5)) then (decide (((e.Kids).length:Int) > 0)) else false) then x2 else false)
 partial_fixpoint
abbrev Dz (e:A0)(res:Bool):Prop:=L0 C 129 [.agg (A0.cells e)] [] (Ret [] (.d (.bool res)))
theorem K1a:(∀ e b,Sd e=some b→Dz e b):=by
 refine Sd.partial_correctness _ ?_
 ·intro j h e b a
  refine L0.intro hC Tryz.func129 R R R (s' R R (E0.n hC R (e' R (S' (t' R (ci' R a (fun a=>?_) (fun a=>?_)))))))
  ·cases a
   exact t' R (re' (rq R))
  obtain ⟨x1,d,a⟩:=bs' a
  obtain ⟨x2,g,a⟩:=bs' a
  cases a
  refine sk' (sg' 22 R (G' 5 R (a1' R (a1' R (po' R (G' 2 R (a1' R (AG.qe hC R (fun hg=>⟨⟨hg,trivial⟩,trivial⟩) (A0.lenA _) (a1' R (pa' R (G' 2 R (a1' R (AG.i hC R R (fun hg=>⟨hg,trivial⟩) (fun f=>⟨D1 (G1 f d),A0.idx (G1 f d),R⟩) ?_)))))))))))))
  exact a1' R (AG.c R R (fun hg=>⟨hg,trivial⟩) (fun f=>h _ _ (G1 f g)) (pa' R (a0' R (an' (n' (re' (rq R)))))))
theorem Sx {e res}(a:Sd e=some res):Dz e res:=(K1a) _ _ a
mutual
def N6 (e:A0):Option Bool:=
 Jq e.Op>>=fun x1=>
 if (bif (bif (x1 != ((e.Kids).length:Int)) then true else (bif (e.Op != 0) then (e.NV != 0) else false)) then true else (bif (bif (e.Op != 3) then (e.Op != 4) else false) then (!(e.Name == [])) else false))=true then
  some false
 else
  (if (bif (e.Op == 4) then true else (e.Op == 5))=true then Sd e else some default)>>=fun x2=>
  if (bif (bif (e.Op == 4) then true else (e.Op == 5)) then (!x2) else false)=true then
   some false
  else
   Od e 0
 partial_fixpoint
def Od (e:A0)(i:Int):Option Bool:=
 if (decide (i < ((e.Kids).length:Int)))=true then
  idx e.Kids i>>=fun x3=>
  N6 x3>>=fun x4=>
  if (!x4)=true then
   some false
  else
   Od e (IntKind.i64.wrap (i+1))
 else
  some true
 partial_fixpoint
end
abbrev Ux (e:A0)(res:Bool):Prop:=L0 C 126 [.agg (A0.cells e)] [] (Ret [] (.d (.bool res)))
abbrev T16 (e:A0)(i:Int)(res:Bool):Prop:=LM C 63 0 Tryz.f126 [1,1,1,0,1,4] [(1,.ref 0 0),(3,.d (.int .i64 i))] [.row (A0.cells e) 80] (Ret [] (.d (.bool res)))
theorem M18:(∀ e b,N6 e=some b→Ux e b)∧(∀ e i b,Od e i=some b→T16 e i b):=by
 refine N6.mutual_partial_correctness _ _ ?_ ?_
 ·intro l d e b a
  obtain ⟨x1,k,a⟩:=bs' a
  refine L0.intro hC Tryz.func126 R R R (s' R R (E0.n hC R (e' R (S' (S' (AEx.drawG hC 32 R R R (G' 2 R (AG.c R R (fun _=>trivial) (fun _=>L1i k) (G' 2 R (AG.qe hC R (fun hg=>⟨trivial,trivial⟩) (A0.lenA _) (G' 3 R (a1' R (a1' R ?_)))))))))))))
  refine a1' R (a0' R (a1' R (a1' R (pA' R (po' R (G' 2 R (a1' R (a1' R (a1' R (a0' R (a1' R (a1' R (pA' R ?_)))))))))))))
  refine a1' R (a0' R (a1' R (a1' R (pA' R (po' R (an' (n' (ci' R a (fun a=>?_) (fun a=>?_)))))))))
  ·cases a
   exact t' R (re' (rq R))
  obtain ⟨x2,j,a⟩:=bs' a
  refine sk' (S' (sg' 13 R (G' 5 R (a1' R (a1' R (po' R (G' 2 R (AG.c R R (fun hg=>⟨hg,trivial⟩) (fun m=>Sx (G1 m j)) (a1' R (pa' R (an' (n' (ci' R a (fun a=>?_) (fun a=>?_))))))))))))))
  ·cases a
   exact t' R (re' (rq R))
  exact sk' (S' (t' R (bk' (fq (d _ _ _ a) R))))
 ·intro q l g d e i b a
  refine Y0.unroll (S' (p' 3 R (qe' R trivial (A0.lenA _) (e' R (ci' R a (fun a=>?_) (fun a=>?_))))))
  ·obtain ⟨p,f,a⟩:=bs' a
   obtain ⟨o,h,a⟩:=bs' a
   refine sk' (S' (bk' (p' 3 R (i' R (D1 f) (A0.idx f) R (q' R (cq (g _ _ h) R (e' R (ci' R a (fun a=>?_) (fun a=>?_)))))))))
   ·cases a
    exact t' R (re' (rq R))
   exact sk' (T' R (lq (d _ _ _ a) R))
  cases a
  exact ex' (t' R (re' (rq R)))
theorem Ki {e res}(a:N6 e=some res):Ux e res:=(M18).1 _ _ a
def Hj (v:Int):Option Bool:=
 some (bif (bif (v == 1) then true else (v == 2)) then true else (v == 7))
theorem Kv {v res}(a:Hj v=some res):L0 C 131 [.d (.int .i64 v)] [] (Ret [] (.d (.bool res))):=by
 unfold Hj at a
 cases a
 exact L0.intro hC Tryz.func131 R R R (t' R (sg' 11 R (G' 4 R (a1' R (po' R (G' 2 R (a1' R (po' R (a0' R (an' (n' (re' (rq R)))))))))))))
def Ns (v:Int):Option Bool:=
 some (bif (v == 4) then true else (v == 6))
theorem O1f {v res}(a:Ns v=some res):L0 C 132 [.d (.int .i64 v)] [] (Ret [] (.d (.bool res))):=by
 unfold Ns at a
 cases a
 exact L0.intro hC Tryz.func132 R R R (t' R (sg' 7 R (G' 4 R (a1' R (po' R (a0' R (an' (n' (re' (rq R))))))))))
def Fn (v:Int):Option Bool:=
 some (bif (bif (v == 5) then true else (v == 6)) then true else (v == 7))
theorem L1a {v res}(a:Fn v=some res):L0 C 133 [.d (.int .i64 v)] [] (Ret [] (.d (.bool res))):=by
 unfold Fn at a
 cases a
 exact L0.intro hC Tryz.func133 R R R (t' R (sg' 11 R (G' 4 R (a1' R (po' R (G' 2 R (a1' R (po' R (a0' R (an' (n' (re' (rq R)))))))))))))
mutual
def U8 (l:List C0):Option Bool:=
 Oc l 0
 partial_fixpoint
def Oc (l:List C0)(i:Int):Option Bool:=
 if (decide (i < ((l).length:Int)))=true then
  idx l i>>=fun x1=>
  if (bif (decide (x1.Verb < 0)) then true else (decide (x1.Verb > 8)))=true then
   some false
  else
   Sf x1.Verb>>=fun x2=>
   (if x2=true then Sd x1.Place else some default)>>=fun x3=>
   (if (x2&&(!(!x3)))=true then N6 x1.Place else some default)>>=fun x4=>
   (if (!(bif x2 then (bif (!x3) then true else (!x4)) else false))=true then Sf x1.Verb else some default)>>=fun x5=>
   (if ((!(bif x2 then (bif (!x3) then true else (!x4)) else false))&&(!x5))=true then Kc x1.Place else some default)>>=fun x6=>
   if (bif (bif x2 then (bif (!x3) then true else (!x4)) else false) then true else (bif (!x5) then (!x6) else false))=true then
    some false
   else
    Tf x1.Verb>>=fun x7=>
    (if x7=true then N6 x1.Value else some default)>>=fun x8=>
    (if (!(bif x7 then (!x8) else false))=true then Tf x1.Verb else some default)>>=fun x9=>
    (if ((!(bif x7 then (!x8) else false))&&(!x9))=true then Kc x1.Value else some default)>>=fun x10=>
    if (bif (bif x7 then (!x8) else false) then true else (bif (!x9) then (!x10) else false))=true then
     some false
    else
     Hj x1.Verb>>=fun x11=>
     (if (!(bif (bif (!x11) then (!(x1.Name == [])) else false) then true else (bif (x1.Verb != 1) then (((x1.Args).length:Int) != 0) else false)))=true then Ns x1.Verb else some default)>>=fun x12=>
     if (bif (bif (bif (bif (bif (!x11) then (!(x1.Name == [])) else false) then true else (bif (x1.Verb != 1) then (((x1.Args).length:Int) != 0) else false)) then true else (bif (!x12) then (x1.NV != 0) else false)) then true else (bif (x1.Verb != 7) then (bif (x1.Low != 0) then true else (x1.High != 0)) else false)) then true else (bif (x1.Verb != 8) then (((x1.Numbers).length:Int) != 0) else false))=true then
      some false
     else
      Fn x1.Verb>>=fun x13=>
      if (bif (bif (!x13) then (((x1.Then).length:Int) != 0) else false) then true else (bif (x1.Verb != 5) then (((x1.Else).length:Int) != 0) else false))=true then
       some false
      else
       Cf l x1 i 0
 else
  some true
 partial_fixpoint
def Cf (l:List C0)(x1:C0)(i1:Int)(k:Int):Option Bool:=
 if (decide (k < ((x1.Args).length:Int)))=true then
  idx x1.Args k>>=fun x14=>
  N6 x14>>=fun x15=>
  if (!x15)=true then
   some false
  else
   Cf l x1 i1 (IntKind.i64.wrap (k+1))
 else
  U8 x1.Then>>=fun x16=>
  (if (!(!x16))=true then U8 x1.Else else some default)>>=fun x17=>
  if (bif (!x16) then true else (!x17))=true then
   some false
  else
   Oc l (IntKind.i64.wrap (i1+1))
 partial_fixpoint
end
abbrev Lv (l:List C0)(res:Bool):Prop:=L0 C 80 [.d (.sl (C0.rows l))] [] (Ret [] (.d (.bool res)))
abbrev D14 (l:List C0)(i:Int)(res:Bool):Prop:=LM C 174 0 Tryz.f80 [1,0,1,4] [(0,.d (.sl (C0.rows l))),(3,.d (.int .i64 i))] [] (Ret [] (.d (.bool res)))
abbrev E14 (l:List C0)(x1:C0)(i1:Int)(k:Int)(res:Bool):Prop:=LM C 174 0 Tryz.f80 [1,0,1,4,5,1,0,4,1,1,1,1,1,1,0,1,4] [(0,.d (.sl (C0.rows l))),(3,.d (.int .i64 i1)),(4,.ref 0 0),(5,.d (.int .i64 k))] [.row (C0.cells x1) 88] (Ret [] (.d (.bool res)))
theorem U16:(∀ l b,U8 l=some b→Lv l b)∧(∀ l i b,Oc l i=some b→D14 l i b)∧(∀ l x1 B k b,Cf l x1 B k=some b→E14 l x1 B k b):=by
 refine U8.mutual_partial_correctness _ _ _ ?_ ?_ ?_
 ·intro F g l b a
  exact L0.intro hC Tryz.func80 R R R (t' R (S' (t' R (bk' (fq (g _ _ _ a) R)))))
 ·intro I f l i b a
  refine Y0.unroll (S' (p' 2 R (qe' R trivial (C0.lenA _) (e' R (ci' R a (fun a=>?_) (fun a=>?_))))))
  ·obtain ⟨x1,q,a⟩:=bs' a
   refine sk' (S' (bk' (p' 2 R (i' R (D1 q) (C0.idx q) R (q' R (E0.nf hC R (E0.s hC R (n' (S' (sg' 8 R (G' 5 R (a1' R (a1' R ?_)))))))))))))
   refine po' R (an' (n' (ci' R a (fun a=>?_) (fun a=>?_))))
   ·cases a
    exact t' R (re' (rq R))
   obtain ⟨x2,A,a⟩:=bs' a
   obtain ⟨T,w,a⟩:=bs' a
   obtain ⟨N,y,a⟩:=bs' a
   obtain ⟨S,u,a⟩:=bs' a
   obtain ⟨O,C,a⟩:=bs' a
   refine sk' (S' (sg' 27 R (G' 2 R (AG.c R R (fun _=>trivial) (fun _=>Pm A) (G' 2 R (a1' R (AG.c R R (fun hg=>⟨hg,trivial⟩) (fun d=>Sx (G1 d w)) (a1' R (a1' R (a0' R (a1' R (AG.c R R (fun hg=>⟨hg,trivial⟩) (fun d=>Ki (G1 d y)) (a1' R ?_)))))))))))))
   refine pO' R (pa' R (G' 2 R (a1' R (AG.c R R (fun hg=>⟨hg,trivial⟩) (fun d=>Pm (G1 d u)) (a1' R (a1' R (a0' R (a1' R (AG.c R R (fun hg=>⟨hg,trivial⟩) (fun d=>Ji (G1 d C)) (a1' R (pA' R (po' R (an' ?_)))))))))))))
   refine n' (ci' R a (fun a=>?_) (fun a=>?_))
   ·cases a
    exact t' R (re' (rq R))
   obtain ⟨P,v,a⟩:=bs' a
   obtain ⟨V,z,a⟩:=bs' a
   obtain ⟨Q,x,a⟩:=bs' a
   obtain ⟨J,p,a⟩:=bs' a
   refine sk' (S' (sg' 21 R (G' 2 R (AG.c R R (fun _=>trivial) (fun _=>Qm v) (G' 2 R (a1' R (AG.c R R (fun hg=>⟨hg,trivial⟩) (fun d=>Ki (G1 d z)) (a1' R (pa' R (G' 2 R (a1' R (AG.c R R (fun hg=>⟨hg,trivial⟩) (fun d=>Qm (G1 d x)) (a1' R ?_)))))))))))))
   refine a1' R (a0' R (a1' R (AG.c R R (fun hg=>⟨hg,trivial⟩) (fun d=>Ji (G1 d p)) (a1' R (pA' R (po' R (an' (n' (ci' R a (fun a=>?_) (fun a=>?_))))))))))
   ·cases a
    exact t' R (re' (rq R))
   obtain ⟨L,n,a⟩:=bs' a
   obtain ⟨D,m,a⟩:=bs' a
   refine sk' (S' (sg' 57 R (G' 2 R (AG.c R R (fun _=>trivial) (fun _=>Kv n) (G' 3 R (a1' R (a1' R (pa' R (G' 2 R (a1' R (a1' R (a1' R (a0' R ?_)))))))))))))
   refine a1' R (AG.qe hC R (fun hg=>⟨⟨hg,trivial⟩,trivial⟩) (A0.lenA _) (a1' R (pA' R (po' R (G' 2 R (a1' R (AG.c R R (fun hg=>⟨hg,trivial⟩) (fun d=>O1f (G1 d m)) (a1' R (a1' R (a0' R (a1' R (a1' R (pA' R ?_)))))))))))))
   refine po' R (G' 2 R (a1' R (a1' R (a1' R (a0' R (a1' R (a1' R (a1' R (a0' R (a1' R (a1' R (pO' R (pA' R ?_)))))))))))))
   refine po' R (G' 2 R (a1' R (a1' R (a1' R (a0' R (a1' R (AG.qe hC R (fun hg=>⟨⟨hg,trivial⟩,trivial⟩) (ei64.lenA _) (a1' R (pA' R (po' R (an' (n' (ci' R a (fun a=>?_) (fun a=>?_))))))))))))))
   ·cases a
    exact t' R (re' (rq R))
   obtain ⟨G,o,a⟩:=bs' a
   refine sk' (S' (sg' 21 R (G' 2 R (AG.c R R (fun _=>trivial) (fun _=>L1a o) (G' 3 R (a1' R (AG.qe hC R (fun hg=>⟨⟨hg,trivial⟩,trivial⟩) (C0.lenA _) (a1' R (pa' R (G' 2 R (a1' R (a1' R (a1' R ?_)))))))))))))
   refine a0' R (a1' R (AG.qe hC R (fun hg=>⟨⟨hg,trivial⟩,trivial⟩) (C0.lenA _) (a1' R (pA' R (po' R (an' (n' (ci' R a (fun a=>?_) (fun a=>?_)))))))))
   ·cases a
    exact t' R (re' (rq R))
   exact sk' (S' (t' R (bk' (fq (f _ _ _ _ _ a) R))))
  cases a
  exact ex' (t' R (re' (rq R)))
 ·intro U F I j g f l x1 B k b a
  refine Y0.unroll (S' (p' 3 R (qe' R trivial (A0.lenA _) (e' R (ci' R a (fun a=>?_) (fun a=>?_))))))
  ·obtain ⟨K,e,a⟩:=bs' a
   obtain ⟨M,r,a⟩:=bs' a
   refine sk' (S' (bk' (p' 3 R (i' R (D1 e) (A0.idx e) R (q' R (cq (Ki r) R (e' R (ci' R a (fun a=>?_) (fun a=>?_)))))))))
   ·cases a
    exact t' R (re' (rq R))
   exact sk' (T' R (lq (f _ _ _ _ _ a) R))
  obtain ⟨E,h,a⟩:=bs' a
  obtain ⟨H,t,a⟩:=bs' a
  refine ex' (sg' 10 R (G' 2 R (AG.c R R (fun _=>trivial) (fun _=>j _ _ h) (G' 3 R (a1' R (AG.c R R (fun hg=>⟨hg,trivial⟩) (fun d=>j _ _ (G1 d t)) (a1' R (po' R (an' (n' (ci' R a (fun a=>?_) (fun a=>?_))))))))))))
  ·cases a
   exact t' R (re' (rq R))
  exact sk' (T' R (lq (g _ _ _ a) R))
theorem Cu {l res}(a:U8 l=some res):Lv l res:=(U16).1 _ _ a
mutual
def Va (l:List B0):Option Bool:=
 Rc l 0
 partial_fixpoint
def Rc (l:List B0)(i:Int):Option Bool:=
 if (decide (i < ((l).length:Int)))=true then
  idx l i>>=fun x1=>
  Fj x1.Kind>>=fun x2=>
  (if (!(!x2))=true then Nc x1.TypeV else some default)>>=fun x3=>
  if (bif (!x2) then true else (!x3))=true then
   some false
  else
   Rf x1.Kind>>=fun x4=>
   (if x4=true then N6 x1.Value else some default)>>=fun x5=>
   (if (!(bif x4 then (!x5) else false))=true then Rf x1.Kind else some default)>>=fun x6=>
   (if ((!(bif x4 then (!x5) else false))&&(!x6))=true then Kc x1.Value else some default)>>=fun x7=>
   if (bif (bif (bif x4 then (!x5) else false) then true else (bif (!x6) then (!x7) else false)) then true else (bif (x1.Kind != 4) then (x1.Init != 0) else false))=true then
    some false
   else
    if (bif (x1.Kind != 6) then (bif (bif (((x1.Params).length:Int) != 0) then true else (((x1.Vars).length:Int) != 0)) then true else (((x1.Body).length:Int) != 0)) else false)=true then
     some false
    else
     K7 l x1 i 0
 else
  some true
 partial_fixpoint
def K7 (l:List B0)(x1:B0)(i1:Int)(k:Int):Option Bool:=
 if (decide (k < ((x1.Params).length:Int)))=true then
  idx x1.Params k>>=fun x8=>
  (if (!(x8.Kind != 4))=true then idx x1.Params k else some default)>>=fun x9=>
  if (bif (x8.Kind != 4) then true else (x9.Init != 0))=true then
   some false
  else
   K7 l x1 i1 (IntKind.i64.wrap (k+1))
 else
  L7 l x1 i1 0
 partial_fixpoint
def L7 (l:List B0)(x1:B0)(i2:Int)(k1:Int):Option Bool:=
 if (decide (k1 < ((x1.Vars).length:Int)))=true then
  idx x1.Vars k1>>=fun x10=>
  if (x10.Kind != 4)=true then
   some false
  else
   L7 l x1 i2 (IntKind.i64.wrap (k1+1))
 else
  Va x1.Params>>=fun x11=>
  (if (!(!x11))=true then Va x1.Vars else some default)>>=fun x12=>
  (if (!(bif (!x11) then true else (!x12)))=true then U8 x1.Body else some default)>>=fun x13=>
  if (bif (bif (!x11) then true else (!x12)) then true else (!x13))=true then
   some false
  else
   Rc l (IntKind.i64.wrap (i2+1))
 partial_fixpoint
end
abbrev Mv (l:List B0)(res:Bool):Prop:=L0 C 79 [.d (.sl (B0.rows l))] [] (Ret [] (.d (.bool res)))
abbrev F14 (l:List B0)(i:Int)(res:Bool):Prop:=LM C 132 0 Tryz.f79 [1,0,1,4] [(0,.d (.sl (B0.rows l))),(3,.d (.int .i64 i))] [] (Ret [] (.d (.bool res)))
abbrev G14 (l:List B0)(x1:B0)(i1:Int)(k:Int)(res:Bool):Prop:=LM C 132 0 Tryz.f79 [1,0,1,4,5,1,0,4,1,1,1,1,0,1,4] [(0,.d (.sl (B0.rows l))),(3,.d (.int .i64 i1)),(4,.ref 0 0),(5,.d (.int .i64 k))] [.row (B0.cells x1) 82] (Ret [] (.d (.bool res)))
abbrev H14 (l:List B0)(x1:B0)(i2:Int)(k1:Int)(res:Bool):Prop:=LM C 132 0 Tryz.f79 [1,0,1,4,5,1,0,4,1,1,1,1,1,0,1,4] [(0,.d (.sl (B0.rows l))),(3,.d (.int .i64 i2)),(4,.ref 0 0),(6,.d (.int .i64 k1))] [.row (B0.cells x1) 82] (Ret [] (.d (.bool res)))
theorem V16:(∀ l b,Va l=some b→Mv l b)∧(∀ l i b,Rc l i=some b→F14 l i b)∧(∀ l x1 A k b,K7 l x1 A k=some b→G14 l x1 A k b)∧(∀ l x1 x v b,L7 l x1 x v=some b→H14 l x1 x v b):=by
 refine Va.mutual_partial_correctness _ _ _ _ ?_ ?_ ?_ ?_
 ·intro E h l b a
  exact L0.intro hC Tryz.func79 R R R (t' R (S' (t' R (bk' (fq (h _ _ _ a) R)))))
 ·intro G f l i b a
  refine Y0.unroll (S' (p' 2 R (qe' R trivial (B0.lenA _) (e' R (ci' R a (fun a=>?_) (fun a=>?_))))))
  ·obtain ⟨x1,r,a⟩:=bs' a
   obtain ⟨x2,z,a⟩:=bs' a
   obtain ⟨O,w,a⟩:=bs' a
   refine sk' (S' (bk' (p' 2 R (i' R (D1 r) (B0.idx r) R (q' R (E0.nf hC R (E0.s hC R (n' (S' (sg' 10 R (G' 2 R (AG.c R R (fun _=>trivial) (fun _=>Ev z) (G' 3 R ?_)))))))))))))
   refine a1' R (AG.c R R (fun hg=>⟨hg,trivial⟩) (fun d=>J1a (G1 d w)) (a1' R (po' R (an' (n' (ci' R a (fun a=>?_) (fun a=>?_)))))))
   ·cases a
    exact t' R (re' (rq R))
   obtain ⟨J,y,a⟩:=bs' a
   obtain ⟨N,t,a⟩:=bs' a
   obtain ⟨K,B,a⟩:=bs' a
   obtain ⟨L,u,a⟩:=bs' a
   refine sk' (S' (sg' 31 R (G' 2 R (AG.c R R (fun _=>trivial) (fun _=>Om y) (G' 2 R (a1' R (AG.c R R (fun hg=>⟨hg,trivial⟩) (fun d=>Ki (G1 d t)) (a1' R (pa' R (G' 2 R (a1' R (AG.c R R (fun hg=>⟨hg,trivial⟩) (fun d=>Om (G1 d B)) (a1' R ?_)))))))))))))
   refine a1' R (a0' R (a1' R (AG.c R R (fun hg=>⟨hg,trivial⟩) (fun d=>Ji (G1 d u)) (a1' R (pA' R (po' R (G' 2 R (a1' R (a1' R (a1' R (a0' R (a1' R (a1' R ?_)))))))))))))
   refine pA' R (po' R (an' (n' (ci' R a (fun a=>?_) (fun a=>?_)))))
   ·cases a
    exact t' R (re' (rq R))
   refine sk' (S' (sg' 21 R (G' 5 R (a1' R (AG.qe hC R (fun hg=>⟨⟨hg,trivial⟩,trivial⟩) (B0.lenA _) (a1' R (a1' R (a0' R (a1' R (AG.qe hC R (fun hg=>⟨⟨hg,trivial⟩,trivial⟩) (B0.lenA _) (a1' R (pO' R (a1' R ?_)))))))))))))
   refine a0' R (a1' R (AG.qe hC R (fun hg=>⟨⟨hg,trivial⟩,trivial⟩) (C0.lenA _) (a1' R (pO' R (pa' R (an' (n' (ci' R a (fun a=>?_) (fun a=>?_)))))))))
   ·cases a
    exact t' R (re' (rq R))
   exact sk' (S' (t' R (bk' (fq (f _ _ _ _ _ a) R))))
  cases a
  exact ex' (t' R (re' (rq R)))
 ·intro G C f g l x1 A k b a
  refine Y0.unroll (S' (p' 3 R (qe' R trivial (B0.lenA _) (e' R (ci' R a (fun a=>?_) (fun a=>?_))))))
  ·obtain ⟨Q,q,a⟩:=bs' a
   obtain ⟨M,m,a⟩:=bs' a
   refine sk' (S' (bk' (sg' 16 R (G' 3 R (AG.i hC R R (fun _=>trivial) (fun d=>⟨D1 q,B0.idx q,R⟩) (G' 5 R (a1' R (a0' R (AG.i hC R R (fun hg=>⟨hg,hg,trivial⟩) (fun d=>⟨D1 (G1 d m),B0.idx (G1 d m),R⟩) (a1' R (a1' R (a1' R (po' R ?_)))))))))))))
   refine an' (n' (ci' R a (fun a=>?_) (fun a=>?_)))
   ·cases a
    exact t' R (re' (rq R))
   exact sk' (T' R (lq (f _ _ _ _ _ a) R))
  exact ex' (S' (t' R (bk' (fq (g _ _ _ _ _ a) R))))
 ·intro P E C j h g l x1 x v b a
  refine Y0.unroll (S' (p' 3 R (qe' R trivial (B0.lenA _) (e' R (ci' R a (fun a=>?_) (fun a=>?_))))))
  ·obtain ⟨H,e,a⟩:=bs' a
   refine sk' (S' (bk' (p' 3 R (i' R (D1 e) (B0.idx e) R (e' R (ci' R a (fun a=>?_) (fun a=>?_)))))))
   ·cases a
    exact t' R (re' (rq R))
   exact sk' (T' R (lq (g _ _ _ _ _ a) R))
  obtain ⟨I,o,a⟩:=bs' a
  obtain ⟨D,n,a⟩:=bs' a
  obtain ⟨F,p,a⟩:=bs' a
  refine ex' (sg' 16 R (G' 2 R (AG.c R R (fun _=>trivial) (fun _=>j _ _ o) (G' 3 R (a1' R (AG.c R R (fun hg=>⟨hg,trivial⟩) (fun d=>j _ _ (G1 d n)) (a1' R (po' R (G' 2 R (a1' R (AG.c R R (fun hg=>⟨hg,trivial⟩) (fun d=>Cu (G1 d p)) (a1' R (po' R ?_)))))))))))))
  refine an' (n' (ci' R a (fun a=>?_) (fun a=>?_)))
  ·cases a
   exact t' R (re' (rq R))
  exact sk' (T' R (lq (h _ _ _ a) R))
theorem N18 {l res}(a:Va l=some res):Mv l res:=(V16).1 _ _ a
def Kq (s:Str):Option Bool:=
 (if (!(bif (decide (((s).length:Int) < 1)) then true else (decide (((s).length:Int) > 12))))=true then idx s 0 else some default)>>=fun x1=>
 (if (!(bif (decide (((s).length:Int) < 1)) then true else (decide (((s).length:Int) > 12))))=true then Vg (x1.toNat:Int) else some default)>>=fun x2=>
 (if (!(bif (bif (decide (((s).length:Int) < 1)) then true else (decide (((s).length:Int) > 12))) then true else (!x2)))=true then Ng s else some default)>>=fun x3=>
 if (bif (bif (bif (decide (((s).length:Int) < 1)) then true else (decide (((s).length:Int) > 12))) then true else (!x2)) then true else x3)=true then
  some false
 else
  Lm s 0>>=fun x4=>
  some (x4 == ((s).length:Int))
theorem F1e {s res}(a:Kq s=some res):L0 C 193 [.d (.str s)] [] (Ret [] (.d (.bool res))):=by
 unfold Kq at a
 obtain ⟨x1,e,a⟩:=bs' a
 obtain ⟨x2,f,a⟩:=bs' a
 obtain ⟨j,h,a⟩:=bs' a
 refine L0.intro hC Tryz.func193 R R R (t' R (S' (sg' 18 R (G' 5 R (a1' R (a1' R (po' R (G' 2 R (AG.x hC R R (fun hg=>⟨hg,trivial⟩) (fun b=>⟨D1 (G1 b e),X5 (G1 b e)⟩) (AG.c R R (fun hg=>⟨hg,trivial⟩) (fun b=>Ql (G1 b f)) (a1' R (po' R (G' 2 R ?_)))))))))))))
 refine AG.c R R (fun hg=>⟨hg,trivial⟩) (fun b=>Zu (G1 b h)) (po' R (an' (n' (ci' R a (fun a=>?_) (fun a=>?_)))))
 ·cases a
  exact t' R (re' (rq R))
 obtain ⟨i,g,a⟩:=bs' a
 cases a
 exact sk' (p' 1 R (cq (X17 g) R (e' R (re' (rq R)))))
def Gd (s:Str):Option Bool:=
 Kq s>>=fun x1=>
 some x1
theorem Qh {s res}(a:Gd s=some res):L0 C 134 [.d (.str s)] [] (Ret [] (.d (.bool res))):=by
 unfold Gd at a
 obtain ⟨x1,b,a⟩:=bs' a
 cases a
 exact L0.intro hC Tryz.func134 R R R (t' R (p' 1 R (cq (F1e b) R (e' R (re' (rq R))))))
mutual
def Wa (t:F0):Option Bool:=
 (if (t.Kind == 4)=true then Gd t.Name else some default)>>=fun x1=>
 if (bif (t.Kind == 4) then (!x1) else false)=true then
  some false
 else
  Sc t 0
 partial_fixpoint
def Sc (t:F0)(i:Int):Option Bool:=
 if (decide (i < ((t.Names).length:Int)))=true then
  idx t.Names i>>=fun x2=>
  Gd x2>>=fun x3=>
  if (!x3)=true then
   some false
  else
   Sc t (IntKind.i64.wrap (i+1))
 else
  R9 t 0
 partial_fixpoint
def R9 (t:F0)(i1:Int):Option Bool:=
 if (decide (i1 < ((t.Of).length:Int)))=true then
  idx t.Of i1>>=fun x4=>
  Wa x4>>=fun x5=>
  if (!x5)=true then
   some false
  else
   R9 t (IntKind.i64.wrap (i1+1))
 else
  some true
 partial_fixpoint
end
abbrev Nv (t:F0)(res:Bool):Prop:=L0 C 135 [.agg (F0.cells t)] [] (Ret [] (.d (.bool res)))
abbrev I14 (t:F0)(i:Int)(res:Bool):Prop:=LM C 42 0 Tryz.f135 [1,1,0,1,4] [(1,.ref 0 0),(3,.d (.int .i64 i))] [.row (F0.cells t) 76] (Ret [] (.d (.bool res)))
abbrev J14 (t:F0)(i1:Int)(res:Bool):Prop:=LM C 42 0 Tryz.f135 [1,1,1,0,1,4] [(1,.ref 0 0),(4,.d (.int .i64 i1))] [.row (F0.cells t) 76] (Ret [] (.d (.bool res)))
theorem W16:(∀ t b,Wa t=some b→Nv t b)∧(∀ t i b,Sc t i=some b→I14 t i b)∧(∀ t l b,R9 t l=some b→J14 t l b):=by
 refine Wa.mutual_partial_correctness _ _ _ ?_ ?_ ?_
 ·intro o e t b a
  obtain ⟨x1,m,a⟩:=bs' a
  refine L0.intro hC Tryz.func135 R R R (s' R R (E0.n hC R (e' R (S' (sg' 9 R (G' 5 R (a1' R (AG.c R R (fun hg=>⟨hg,trivial⟩) (fun q=>Qh (G1 q m)) (a1' R (pa' R (an' (n' (ci' R a (fun a=>?_) (fun a=>?_))))))))))))))
  ·cases a
   exact t' R (re' (rq R))
  exact sk' (S' (t' R (bk' (fq (e _ _ _ a) R))))
 ·intro o p e d t i b a
  refine Y0.unroll (S' (p' 3 R (qe' R trivial (estr.lenA _) (e' R (ci' R a (fun a=>?_) (fun a=>?_))))))
  ·obtain ⟨x2,g,a⟩:=bs' a
   obtain ⟨u,k,a⟩:=bs' a
   refine sk' (S' (bk' (p' 3 R (i' R (D1 g) (estr.idx g) R (q' R (cq (Qh k) R (e' R (ci' R a (fun a=>?_) (fun a=>?_)))))))))
   ·cases a
    exact t' R (re' (rq R))
   exact sk' (T' R (lq (e _ _ _ a) R))
  exact ex' (S' (t' R (bk' (fq (d _ _ _ a) R))))
 ·intro v p j d t l b a
  refine Y0.unroll (S' (p' 3 R (qe' R trivial (F0.lenA _) (e' R (ci' R a (fun a=>?_) (fun a=>?_))))))
  ·obtain ⟨r,f,a⟩:=bs' a
   obtain ⟨s,h,a⟩:=bs' a
   refine sk' (S' (bk' (p' 3 R (i' R (D1 f) (F0.idx f) R (q' R (cq (j _ _ h) R (e' R (ci' R a (fun a=>?_) (fun a=>?_)))))))))
   ·cases a
    exact t' R (re' (rq R))
   exact sk' (T' R (lq (d _ _ _ a) R))
  cases a
  exact ex' (t' R (re' (rq R)))
theorem O18 {t res}(a:Wa t=some res):Nv t res:=(W16).1 _ _ a
mutual
def Z5 (e:A0):Option Bool:=
 (if (bif (e.Op == 3) then true else (e.Op == 4))=true then Gd e.Name else some default)>>=fun x1=>
 if (bif (bif (e.Op == 3) then true else (e.Op == 4)) then (!x1) else false)=true then
  some false
 else
  Tc e 0
 partial_fixpoint
def Tc (e:A0)(i:Int):Option Bool:=
 if (decide (i < ((e.Kids).length:Int)))=true then
  idx e.Kids i>>=fun x2=>
  Z5 x2>>=fun x3=>
  if (!x3)=true then
   some false
  else
   Tc e (IntKind.i64.wrap (i+1))
 else
  some true
 partial_fixpoint
end
abbrev Ov (e:A0)(res:Bool):Prop:=L0 C 136 [.agg (A0.cells e)] [] (Ret [] (.d (.bool res)))
abbrev K14 (e:A0)(i:Int)(res:Bool):Prop:=LM C 32 0 Tryz.f136 [1,1,0,1,4] [(1,.ref 0 0),(3,.d (.int .i64 i))] [.row (A0.cells e) 80] (Ret [] (.d (.bool res)))
theorem X16:(∀ e b,Z5 e=some b→Ov e b)∧(∀ e i b,Tc e i=some b→K14 e i b):=by
 refine Z5.mutual_partial_correctness _ _ ?_ ?_
 ·intro k d e b a
  obtain ⟨x1,g,a⟩:=bs' a
  refine L0.intro hC Tryz.func136 R R R (s' R R (E0.n hC R (e' R (S' (sg' 14 R (G' 5 R (a1' R (a1' R (po' R (G' 2 R (a1' R (AG.c R R (fun hg=>⟨hg,trivial⟩) (fun l=>Qh (G1 l g)) (a1' R ?_)))))))))))))
  refine pa' R (an' (n' (ci' R a (fun a=>?_) (fun a=>?_))))
  ·cases a
   exact t' R (re' (rq R))
  exact sk' (S' (t' R (bk' (fq (d _ _ _ a) R))))
 ·intro o k h d e i b a
  refine Y0.unroll (S' (p' 3 R (qe' R trivial (A0.lenA _) (e' R (ci' R a (fun a=>?_) (fun a=>?_))))))
  ·obtain ⟨x2,f,a⟩:=bs' a
   obtain ⟨m,j,a⟩:=bs' a
   refine sk' (S' (bk' (p' 3 R (i' R (D1 f) (A0.idx f) R (q' R (cq (h _ _ j) R (e' R (ci' R a (fun a=>?_) (fun a=>?_)))))))))
   ·cases a
    exact t' R (re' (rq R))
   exact sk' (T' R (lq (d _ _ _ a) R))
  cases a
  exact ex' (t' R (re' (rq R)))
theorem Rh {e res}(a:Z5 e=some res):Ov e res:=(X16).1 _ _ a
mutual
def W7 (l:List C0):Option Bool:=
 Cb l 0
 partial_fixpoint
def Cb (l:List C0)(i:Int):Option Bool:=
 if (decide (i < ((l).length:Int)))=true then
  idx l i>>=fun x1=>
  Hj x1.Verb>>=fun x2=>
  (if x2=true then Gd x1.Name else some default)>>=fun x3=>
  (if (!(bif x2 then (!x3) else false))=true then Z5 x1.Place else some default)>>=fun x4=>
  (if (!(bif (bif x2 then (!x3) else false) then true else (!x4)))=true then Z5 x1.Value else some default)>>=fun x5=>
  (if (!(bif (bif (bif x2 then (!x3) else false) then true else (!x4)) then true else (!x5)))=true then W7 x1.Then else some default)>>=fun x6=>
  (if (!(bif (bif (bif (bif x2 then (!x3) else false) then true else (!x4)) then true else (!x5)) then true else (!x6)))=true then W7 x1.Else else some default)>>=fun x7=>
  if (bif (bif (bif (bif (bif x2 then (!x3) else false) then true else (!x4)) then true else (!x5)) then true else (!x6)) then true else (!x7))=true then
   some false
  else
   Zd l x1 i 0
 else
  some true
 partial_fixpoint
def Zd (l:List C0)(x1:C0)(i1:Int)(k:Int):Option Bool:=
 if (decide (k < ((x1.Args).length:Int)))=true then
  idx x1.Args k>>=fun x8=>
  Z5 x8>>=fun x9=>
  if (!x9)=true then
   some false
  else
   Zd l x1 i1 (IntKind.i64.wrap (k+1))
 else
  Cb l (IntKind.i64.wrap (i1+1))
 partial_fixpoint
end
abbrev Du (l:List C0)(res:Bool):Prop:=L0 C 82 [.d (.sl (C0.rows l))] [] (Ret [] (.d (.bool res)))
abbrev H12 (l:List C0)(i:Int)(res:Bool):Prop:=LM C 63 0 Tryz.f82 [1,0,1,4] [(0,.d (.sl (C0.rows l))),(3,.d (.int .i64 i))] [] (Ret [] (.d (.bool res)))
abbrev I12 (l:List C0)(x1:C0)(i1:Int)(k:Int)(res:Bool):Prop:=LM C 63 0 Tryz.f82 [1,0,1,4,5,1,0,4,1,1,1,4] [(0,.d (.sl (C0.rows l))),(3,.d (.int .i64 i1)),(4,.ref 0 0),(5,.d (.int .i64 k))] [.row (C0.cells x1) 88] (Ret [] (.d (.bool res)))
theorem L14:(∀ l b,W7 l=some b→Du l b)∧(∀ l i b,Cb l i=some b→H12 l i b)∧(∀ l x1 t k b,Zd l x1 t k=some b→I12 l x1 t k b):=by
 refine W7.mutual_partial_correctness _ _ _ ?_ ?_ ?_
 ·intro v f l b a
  exact L0.intro hC Tryz.func82 R R R (t' R (S' (t' R (bk' (fq (f _ _ _ a) R)))))
 ·intro D w g e l i b a
  refine Y0.unroll (S' (p' 2 R (qe' R trivial (C0.lenA _) (e' R (ci' R a (fun a=>?_) (fun a=>?_))))))
  ·obtain ⟨x1,j,a⟩:=bs' a
   obtain ⟨x2,r,a⟩:=bs' a
   obtain ⟨C,o,a⟩:=bs' a
   obtain ⟨x,q,a⟩:=bs' a
   obtain ⟨B,m,a⟩:=bs' a
   obtain ⟨y,u,a⟩:=bs' a
   obtain ⟨z,n,a⟩:=bs' a
   refine sk' (S' (bk' (p' 2 R (i' R (D1 j) (C0.idx j) R (q' R (E0.nf hC R (E0.s hC R (n' (S' (sg' 33 R (G' 2 R (AG.c R R (fun _=>trivial) (fun _=>Kv r) (G' 2 R ?_)))))))))))))
   refine a1' R (AG.c R R (fun hg=>⟨hg,trivial⟩) (fun d=>Qh (G1 d o)) (a1' R (pa' R (G' 2 R (a1' R (AG.c R R (fun hg=>⟨hg,trivial⟩) (fun d=>Rh (G1 d q)) (a1' R (po' R (G' 2 R (a1' R (AG.c R R (fun hg=>⟨hg,trivial⟩) (fun d=>Rh (G1 d m)) (a1' R (po' R ?_)))))))))))))
   refine G' 2 R (a1' R (AG.c R R (fun hg=>⟨hg,trivial⟩) (fun d=>g _ _ (G1 d u)) (a1' R (po' R (G' 2 R (a1' R (AG.c R R (fun hg=>⟨hg,trivial⟩) (fun d=>g _ _ (G1 d n)) (a1' R (po' R (an' (n' (ci' R a (fun a=>?_) (fun a=>?_)))))))))))))
   ·cases a
    exact t' R (re' (rq R))
   exact sk' (t' R (bk' (fq (e _ _ _ _ _ a) R)))
  cases a
  exact ex' (t' R (re' (rq R)))
 ·intro v w f e l x1 t k b a
  refine Y0.unroll (S' (p' 3 R (qe' R trivial (A0.lenA _) (e' R (ci' R a (fun a=>?_) (fun a=>?_))))))
  ·obtain ⟨E,h,a⟩:=bs' a
   obtain ⟨A,p,a⟩:=bs' a
   refine sk' (S' (bk' (p' 3 R (i' R (D1 h) (A0.idx h) R (q' R (cq (Rh p) R (e' R (ci' R a (fun a=>?_) (fun a=>?_)))))))))
   ·cases a
    exact t' R (re' (rq R))
   exact sk' (T' R (lq (e _ _ _ _ _ a) R))
  exact ex' (T' R (lq (f _ _ _ a) R))
theorem Lr {l res}(a:W7 l=some res):Du l res:=(L14).1 _ _ a
mutual
def S9 (l:List B0):Option Bool:=
 Db l 0
 partial_fixpoint
def Db (l:List B0)(i:Int):Option Bool:=
 if (decide (i < ((l).length:Int)))=true then
  idx l i>>=fun x1=>
  Gd x1.Name>>=fun x2=>
  (if (!(!x2))=true then Wa x1.TypeV else some default)>>=fun x3=>
  (if (!(bif (!x2) then true else (!x3)))=true then Z5 x1.Value else some default)>>=fun x4=>
  (if (!(bif (bif (!x2) then true else (!x3)) then true else (!x4)))=true then S9 x1.Params else some default)>>=fun x5=>
  (if (!(bif (bif (bif (!x2) then true else (!x3)) then true else (!x4)) then true else (!x5)))=true then S9 x1.Vars else some default)>>=fun x6=>
  (if (!(bif (bif (bif (bif (!x2) then true else (!x3)) then true else (!x4)) then true else (!x5)) then true else (!x6)))=true then W7 x1.Body else some default)>>=fun x7=>
  if (bif (bif (bif (bif (bif (!x2) then true else (!x3)) then true else (!x4)) then true else (!x5)) then true else (!x6)) then true else (!x7))=true then
   some false
  else
   Db l (IntKind.i64.wrap (i+1))
 else
  some true
 partial_fixpoint
end
abbrev Eu (l:List B0)(res:Bool):Prop:=L0 C 81 [.d (.sl (B0.rows l))] [] (Ret [] (.d (.bool res)))
abbrev J12 (l:List B0)(i:Int)(res:Bool):Prop:=LM C 49 0 Tryz.f81 [1,0,1,4] [(0,.d (.sl (B0.rows l))),(3,.d (.int .i64 i))] [] (Ret [] (.d (.bool res)))
theorem M14:(∀ l b,S9 l=some b→Eu l b)∧(∀ l i b,Db l i=some b→J12 l i b):=by
 refine S9.mutual_partial_correctness _ _ ?_ ?_
 ·intro p e l b a
  exact L0.intro hC Tryz.func81 R R R (t' R (S' (t' R (bk' (fq (e _ _ _ a) R)))))
 ·intro w p f e l i b a
  refine Y0.unroll (S' (p' 2 R (qe' R trivial (B0.lenA _) (e' R (ci' R a (fun a=>?_) (fun a=>?_))))))
  ·obtain ⟨x1,g,a⟩:=bs' a
   obtain ⟨x2,n,a⟩:=bs' a
   obtain ⟨v,k,a⟩:=bs' a
   obtain ⟨q,m,a⟩:=bs' a
   obtain ⟨u,h,a⟩:=bs' a
   obtain ⟨r,o,a⟩:=bs' a
   obtain ⟨t,j,a⟩:=bs' a
   refine sk' (S' (bk' (p' 2 R (i' R (D1 g) (B0.idx g) R (q' R (E0.nf hC R (E0.s hC R (n' (sg' 34 R (G' 2 R (AG.c R R (fun _=>trivial) (fun _=>Qh n) (G' 3 R (a1' R ?_)))))))))))))
   refine AG.c R R (fun hg=>⟨hg,trivial⟩) (fun d=>O18 (G1 d k)) (a1' R (po' R (G' 2 R (a1' R (AG.c R R (fun hg=>⟨hg,trivial⟩) (fun d=>Rh (G1 d m)) (a1' R (po' R (G' 2 R (a1' R (AG.c R R (fun hg=>⟨hg,trivial⟩) (fun d=>f _ _ (G1 d h)) (a1' R (po' R (G' 2 R ?_)))))))))))))
   refine a1' R (AG.c R R (fun hg=>⟨hg,trivial⟩) (fun d=>f _ _ (G1 d o)) (a1' R (po' R (G' 2 R (a1' R (AG.c R R (fun hg=>⟨hg,trivial⟩) (fun d=>Lr (G1 d j)) (a1' R (po' R (an' (n' (ci' R a (fun a=>?_) (fun a=>?_))))))))))))
   ·cases a
    exact t' R (re' (rq R))
   exact sk' (T' R (lq (e _ _ _ a) R))
  cases a
  exact ex' (t' R (re' (rq R)))
theorem Y16 {l res}(a:S9 l=some res):Eu l res:=(M14).1 _ _ a
def Df (n:Int):Option Bool:=
 some (bif (decide (n≥(-1048576))) then (decide (n≤1048576)) else false)
theorem Sh {n res}(a:Df n=some res):L0 C 137 [.d (.int .i64 n)] [] (Ret [] (.d (.bool res))):=by
 unfold Df at a
 cases a
 exact L0.intro hC Tryz.func137 R R R (t' R (sg' 7 R (G' 4 R (a1' R (pa' R (a0' R (an' (n' (re' (rq R))))))))))
mutual
def N8 (t:F0):Option Bool:=
 (if (t.Kind == 1)=true then Df t.Low else some default)>>=fun x1=>
 (if ((t.Kind == 1)&&(!(!x1)))=true then Df t.High else some default)>>=fun x2=>
 if (bif (bif (bif (t.Kind == 1) then (bif (bif (!x1) then true else (!x2)) then true else (decide (t.Low > t.High))) else false) then true else (bif (t.Kind == 2) then (bif (decide (t.Size < 1)) then true else (decide (t.Size > 32))) else false)) then true else (decide (((t.Of).length:Int) > 32)))=true then
  some false
 else
  Ea t 0
 partial_fixpoint
def Ea (t:F0)(i:Int):Option Bool:=
 if (decide (i < ((t.Of).length:Int)))=true then
  idx t.Of i>>=fun x3=>
  N8 x3>>=fun x4=>
  if (!x4)=true then
   some false
  else
   Ea t (IntKind.i64.wrap (i+1))
 else
  some true
 partial_fixpoint
end
abbrev Mr (t:F0)(res:Bool):Prop:=L0 C 138 [.agg (F0.cells t)] [] (Ret [] (.d (.bool res)))
abbrev E10 (t:F0)(i:Int)(res:Bool):Prop:=LM C 61 0 Tryz.f138 [1,1,0,1,4] [(1,.ref 0 0),(3,.d (.int .i64 i))] [.row (F0.cells t) 76] (Ret [] (.d (.bool res)))
theorem K12:(∀ t b,N8 t=some b→Mr t b)∧(∀ t i b,Ea t i=some b→E10 t i b):=by
 refine N8.mutual_partial_correctness _ _ ?_ ?_
 ·intro l d t b a
  obtain ⟨x1,k,a⟩:=bs' a
  obtain ⟨x2,j,a⟩:=bs' a
  refine L0.intro hC Tryz.func138 R R R (s' R R (E0.n hC R (e' R (S' (sg' 43 R (G' 5 R (a1' R (AG.c R R (fun hg=>⟨hg,trivial⟩) (fun h=>Sh (G1 h k)) (a1' R (a1' R (a0' R (a1' R (AG.c R R (fun hg=>⟨hg,trivial⟩) (fun h=>Sh (G1 h j)) ?_)))))))))))))
  refine a1' R (pO' R (a1' R (a0' R (a1' R (a0' R (a1' R (a2' R (pO' R (pa' R (G' 2 R (a1' R (a1' R (a1' R ?_)))))))))))))
  refine a0' R (a1' R (a1' R (a1' R (a0' R (a1' R (a1' R (pO' R (pA' R (po' R (G' 2 R (a1' R (AG.qe hC R (fun hg=>⟨⟨hg,trivial⟩,trivial⟩) (F0.lenA _) (a1' R ?_)))))))))))))
  refine po' R (an' (n' (ci' R a (fun a=>?_) (fun a=>?_))))
  ·cases a
   exact t' R (re' (rq R))
  exact sk' (S' (t' R (bk' (fq (d _ _ _ a) R))))
 ·intro p l f d t i b a
  refine Y0.unroll (S' (p' 3 R (qe' R trivial (F0.lenA _) (e' R (ci' R a (fun a=>?_) (fun a=>?_))))))
  ·obtain ⟨o,e,a⟩:=bs' a
   obtain ⟨m,g,a⟩:=bs' a
   refine sk' (S' (bk' (p' 3 R (i' R (D1 e) (F0.idx e) R (q' R (cq (f _ _ g) R (e' R (ci' R a (fun a=>?_) (fun a=>?_)))))))))
   ·cases a
    exact t' R (re' (rq R))
   exact sk' (T' R (lq (d _ _ _ a) R))
  cases a
  exact ex' (t' R (re' (rq R)))
theorem N14 {t res}(a:N8 t=some res):Mr t res:=(K12).1 _ _ a
mutual
def M4 (e:A0):Option Bool:=
 if (bif (e.Op == 0) then (bif (decide (e.NV < 0)) then true else (decide (e.NV > 1048576))) else false)=true then
  some false
 else
  Fa e 0
 partial_fixpoint
def Fa (e:A0)(i:Int):Option Bool:=
 if (decide (i < ((e.Kids).length:Int)))=true then
  idx e.Kids i>>=fun x1=>
  M4 x1>>=fun x2=>
  if (!x2)=true then
   some false
  else
   Fa e (IntKind.i64.wrap (i+1))
 else
  some true
 partial_fixpoint
end
abbrev Nr (e:A0)(res:Bool):Prop:=L0 C 139 [.agg (A0.cells e)] [] (Ret [] (.d (.bool res)))
abbrev F10 (e:A0)(i:Int)(res:Bool):Prop:=LM C 31 0 Tryz.f139 [1,1,0,1,4] [(1,.ref 0 0),(3,.d (.int .i64 i))] [.row (A0.cells e) 80] (Ret [] (.d (.bool res)))
theorem L12:(∀ e b,M4 e=some b→Nr e b)∧(∀ e i b,Fa e i=some b→F10 e i b):=by
 refine M4.mutual_partial_correctness _ _ ?_ ?_
 ·intro h c e b a
  refine L0.intro hC Tryz.func139 R R R (s' R R (E0.n hC R (e' R (S' (sg' 13 R (G' 5 R (a1' R (a1' R (a1' R (a0' R (a1' R (a1' R (pO' R ?_)))))))))))))
  refine pa' R (an' (n' (ci' R a (fun a=>?_) (fun a=>?_))))
  ·cases a
   exact t' R (re' (rq R))
  exact sk' (S' (t' R (bk' (fq (c _ _ _ a) R))))
 ·intro j h g c e i b a
  refine Y0.unroll (S' (p' 3 R (qe' R trivial (A0.lenA _) (e' R (ci' R a (fun a=>?_) (fun a=>?_))))))
  ·obtain ⟨x1,d,a⟩:=bs' a
   obtain ⟨x2,f,a⟩:=bs' a
   refine sk' (S' (bk' (p' 3 R (i' R (D1 d) (A0.idx d) R (q' R (cq (g _ _ f) R (e' R (ci' R a (fun a=>?_) (fun a=>?_)))))))))
   ·cases a
    exact t' R (re' (rq R))
   exact sk' (T' R (lq (c _ _ _ a) R))
  cases a
  exact ex' (t' R (re' (rq R)))
theorem Fg {e res}(a:M4 e=some res):Nr e res:=(L12).1 _ _ a
def P6 (s:C0)(k:Int):Option Bool:=
 if (decide (k < ((s.Numbers).length:Int)))=true then
  idx s.Numbers k>>=fun x3=>
  (if (!(decide (x3 < 0)))=true then idx s.Numbers k else some default)>>=fun x4=>
  (if ((!(bif (decide (x3 < 0)) then true else (decide (x4 > 1048576))))&&(decide (k > 0)))=true then idx s.Numbers k else some default)>>=fun x5=>
  (if ((!(bif (decide (x3 < 0)) then true else (decide (x4 > 1048576))))&&(decide (k > 0)))=true then idx s.Numbers (IntKind.i64.wrap (k - 1)) else some default)>>=fun x6=>
  if (bif (bif (decide (x3 < 0)) then true else (decide (x4 > 1048576))) then true else (bif (decide (k > 0)) then (decide (x5≤x6)) else false))=true then
   some false
  else
   P6 s (IntKind.i64.wrap (k+1))
 else
  some true
 partial_fixpoint
abbrev Yn (s:C0)(k:Int)(res:Bool):Prop:=LM C 105 0 Tryz.f140 [1,1,1,1,0,1,2,1,1,4] [(1,.ref 0 0),(3,.d (.int .i64 k))] [.row (C0.cells s) 88] (Ret [] (.d (.bool res)))
theorem Vx (s:C0):(∀ k c,P6 s k=some c→Yn s k c):=by
 refine P6.partial_correctness s _ ?_
 ·intro n h k c a
  refine Y0.unroll (S' (p' 3 R (qe' R trivial (ei64.lenA _) (e' R (ci' R a (fun a=>?_) (fun a=>?_))))))
  ·obtain ⟨m,f,a⟩:=bs' a
   obtain ⟨j,e,a⟩:=bs' a
   obtain ⟨l,g,a⟩:=bs' a
   obtain ⟨o,d,a⟩:=bs' a
   refine sk' (S' (bk' (S' (AEx.drawG hC 32 R R R (G' 3 R (AG.i hC R R (fun _=>trivial) (fun b=>⟨D1 f,ei64.idx f,R⟩) (G' 4 R (a1' R (a0' R (AG.i hC R R (fun hg=>⟨hg,hg,trivial⟩) (fun b=>⟨D1 (G1 b e),ei64.idx (G1 b e),R⟩) (a1' R (a1' R (po' R ?_)))))))))))))
   refine G' 2 R (a1' R (a1' R (a0' R (a1' R (a0' R (AG.i hC R R (fun hg=>⟨hg,hg,trivial⟩) (fun b=>⟨D1 (G1 b g),ei64.idx (G1 b g),R⟩) (a1' R (a0' R (a1' R (a0' R (a1' R (AG.i hC R R (fun hg=>⟨hg,hg,trivial⟩) (fun b=>⟨D1 (G1 b d),ei64.idx (G1 b d),R⟩) (a1' R ?_)))))))))))))
   refine a2' R (pA' R (po' R (an' (n' (ci' R a (fun a=>?_) (fun a=>?_))))))
   ·cases a
    exact t' R (re' (rq R))
   exact sk' (T' R (lq (h _ _ a) R))
  cases a
  exact ex' (t' R (re' (rq R)))
theorem Ny {s k res}(a:P6 s k=some res):Yn s k res:=(Vx s) _ _ a
def Ag (s:C0):Option Bool:=
 if (s.Verb == 4)=true then
  some (bif (decide (s.NV≥0)) then (decide (s.NV≤1048576)) else false)
 else
  if (s.Verb == 6)=true then
   some (bif (decide (s.NV≥0)) then (decide (s.NV≤4096)) else false)
  else
   if (s.Verb == 7)=true then
    Df s.Low>>=fun x1=>
    (if x1=true then Df s.High else some default)>>=fun x2=>
    some (bif (bif (bif x1 then x2 else false) then (decide (s.Low≤s.High)) else false) then (decide ((IntKind.i64.wrap ((IntKind.i64.wrap (s.High - s.Low))+1))≤4096)) else false)
   else
    if (s.Verb == 8)=true then
     if (bif (decide (((s.Numbers).length:Int) < 1)) then true else (decide (((s.Numbers).length:Int) > 32)))=true then
      some false
     else
      P6 s 0
    else
     some true
theorem O14 {s res}(a:Ag s=some res):L0 C 140 [.agg (C0.cells s)] [] (Ret [] (.d (.bool res))):=by
 unfold Ag at a
 refine L0.intro hC Tryz.func140 R R R (s' R R (E0.n hC R (e' R (S' (t' R (ci' R a (fun a=>?_) (fun a=>?_)))))))
 ·cases a
  exact sg' 9 R (G' 5 R (a1' R (a1' R (pa' R (a0' R (an' (n' (re' (rq R)))))))))
 refine sk' (S' (t' R (ci' R a (fun a=>?_) (fun a=>?_))))
 ·cases a
  exact sg' 9 R (G' 5 R (a1' R (a1' R (pa' R (a0' R (an' (n' (re' (rq R)))))))))
 refine sk' (S' (t' R (ci' R a (fun a=>?_) (fun a=>?_))))
 ·obtain ⟨x1,e,a⟩:=bs' a
  obtain ⟨x2,b,a⟩:=bs' a
  cases a
  refine sg' 25 R (G' 2 R (AG.c R R (fun _=>trivial) (fun _=>Sh e) (G' 2 R (a1' R (AG.c R R (fun hg=>⟨hg,trivial⟩) (fun f=>Sh (G1 f b)) (pa' R (G' 2 R (a1' R (a0' R (a1' R (a2' R (pa' R (G' 2 R ?_)))))))))))))
  exact a1' R (a0' R (a1' R (a2' R (a1' R (a1' R (pa' R (a0' R (an' (n' (re' (rq R)))))))))))
 refine sk' (S' (t' R (ci' R a (fun a=>?_) (fun a=>?_))))
 ·refine S' (sg' 10 R (G' 2 R (AG.qe hC R (fun hg=>⟨trivial,trivial⟩) (ei64.lenA _) (G' 3 R (a1' R (AG.qe hC R (fun hg=>⟨⟨hg,trivial⟩,trivial⟩) (ei64.lenA _) (a1' R (po' R (an' (n' (ci' R a (fun a=>?_) (fun a=>?_))))))))))))
  ·cases a
   exact t' R (re' (rq R))
  exact sk' (t' R (bk' (fq (Ny a) R)))
 cases a
 exact sk' (t' R (re' (rq R)))
mutual
def Q6 (l:List C0):Option Bool:=
 A9 l 0
 partial_fixpoint
def A9 (l:List C0)(i:Int):Option Bool:=
 if (decide (i < ((l).length:Int)))=true then
  idx l i>>=fun x1=>
  Ag x1>>=fun x2=>
  (if (!(!x2))=true then M4 x1.Place else some default)>>=fun x3=>
  (if (!(bif (!x2) then true else (!x3)))=true then M4 x1.Value else some default)>>=fun x4=>
  (if (!(bif (bif (!x2) then true else (!x3)) then true else (!x4)))=true then Q6 x1.Then else some default)>>=fun x5=>
  (if (!(bif (bif (bif (!x2) then true else (!x3)) then true else (!x4)) then true else (!x5)))=true then Q6 x1.Else else some default)>>=fun x6=>
  if (bif (bif (bif (bif (!x2) then true else (!x3)) then true else (!x4)) then true else (!x5)) then true else (!x6))=true then
   some false
  else
   Uc l x1 i 0
 else
  some true
 partial_fixpoint
def Uc (l:List C0)(x1:C0)(i1:Int)(k:Int):Option Bool:=
 if (decide (k < ((x1.Args).length:Int)))=true then
  idx x1.Args k>>=fun x7=>
  M4 x7>>=fun x8=>
  if (!x8)=true then
   some false
  else
   Uc l x1 i1 (IntKind.i64.wrap (k+1))
 else
  A9 l (IntKind.i64.wrap (i1+1))
 partial_fixpoint
end
abbrev Lq (l:List C0)(res:Bool):Prop:=L0 C 84 [.d (.sl (C0.rows l))] [] (Ret [] (.d (.bool res)))
abbrev Oy (l:List C0)(i:Int)(res:Bool):Prop:=LM C 57 0 Tryz.f84 [1,0,1,4] [(0,.d (.sl (C0.rows l))),(3,.d (.int .i64 i))] [] (Ret [] (.d (.bool res)))
abbrev Py (l:List C0)(x1:C0)(i1:Int)(k:Int)(res:Bool):Prop:=LM C 57 0 Tryz.f84 [1,0,1,4,5,1,0,4,1,1,1,4] [(0,.d (.sl (C0.rows l))),(3,.d (.int .i64 i1)),(4,.ref 0 0),(5,.d (.int .i64 k))] [.row (C0.cells x1) 88] (Ret [] (.d (.bool res)))
theorem G10:(∀ l b,Q6 l=some b→Lq l b)∧(∀ l i b,A9 l i=some b→Oy l i b)∧(∀ l x1 r k b,Uc l x1 r k=some b→Py l x1 r k b):=by
 refine Q6.mutual_partial_correctness _ _ _ ?_ ?_ ?_
 ·intro u f l b a
  exact L0.intro hC Tryz.func84 R R R (t' R (S' (t' R (bk' (fq (f _ _ _ a) R)))))
 ·intro B v h d l i b a
  refine Y0.unroll (S' (p' 2 R (qe' R trivial (C0.lenA _) (e' R (ci' R a (fun a=>?_) (fun a=>?_))))))
  ·obtain ⟨x1,j,a⟩:=bs' a
   obtain ⟨x2,q,a⟩:=bs' a
   obtain ⟨A,n,a⟩:=bs' a
   obtain ⟨w,o,a⟩:=bs' a
   obtain ⟨z,m,a⟩:=bs' a
   obtain ⟨x,t,a⟩:=bs' a
   refine sk' (S' (bk' (p' 2 R (i' R (D1 j) (C0.idx j) R (q' R (E0.nf hC R (E0.s hC R (n' (S' (sg' 27 R (a0' R (AG.c R R (fun _=>trivial) (fun _=>O14 q) (G' 3 R ?_)))))))))))))
   refine a1' R (AG.c R R (fun hg=>⟨hg,trivial⟩) (fun e=>Fg (G1 e n)) (a1' R (po' R (G' 2 R (a1' R (AG.c R R (fun hg=>⟨hg,trivial⟩) (fun e=>Fg (G1 e o)) (a1' R (po' R (G' 2 R (a1' R (AG.c R R (fun hg=>⟨hg,trivial⟩) (fun e=>h _ _ (G1 e m)) (a1' R (po' R ?_)))))))))))))
   refine G' 2 R (a1' R (AG.c R R (fun hg=>⟨hg,trivial⟩) (fun e=>h _ _ (G1 e t)) (a1' R (po' R (an' (n' (ci' R a (fun a=>?_) (fun a=>?_))))))))
   ·cases a
    exact t' R (re' (rq R))
   exact sk' (t' R (bk' (fq (d _ _ _ _ _ a) R)))
  cases a
  exact ex' (t' R (re' (rq R)))
 ·intro u v f d l x1 r k b a
  refine Y0.unroll (S' (p' 3 R (qe' R trivial (A0.lenA _) (e' R (ci' R a (fun a=>?_) (fun a=>?_))))))
  ·obtain ⟨y,g,a⟩:=bs' a
   obtain ⟨C,p,a⟩:=bs' a
   refine sk' (S' (bk' (p' 3 R (i' R (D1 g) (A0.idx g) R (q' R (cq (Fg p) R (e' R (ci' R a (fun a=>?_) (fun a=>?_)))))))))
   ·cases a
    exact t' R (re' (rq R))
   exact sk' (T' R (lq (d _ _ _ _ _ a) R))
  exact ex' (T' R (lq (f _ _ _ a) R))
theorem Jp {l res}(a:Q6 l=some res):Lq l res:=(G10).1 _ _ a
mutual
def M7 (l:List B0):Option Bool:=
 B9 l 0
 partial_fixpoint
def B9 (l:List B0)(i:Int):Option Bool:=
 if (decide (i < ((l).length:Int)))=true then
  idx l i>>=fun x1=>
  Df x1.Init>>=fun x2=>
  if (bif (!x2) then true else (bif (x1.TypeV.Kind == 0) then (bif (decide (x1.Init < 0)) then true else (decide (x1.Init > 1))) else false))=true then
   some false
  else
   N8 x1.TypeV>>=fun x3=>
   (if (!(!x3))=true then M4 x1.Value else some default)>>=fun x4=>
   (if (!(bif (!x3) then true else (!x4)))=true then M7 x1.Params else some default)>>=fun x5=>
   (if (!(bif (bif (!x3) then true else (!x4)) then true else (!x5)))=true then M7 x1.Vars else some default)>>=fun x6=>
   (if (!(bif (bif (bif (!x3) then true else (!x4)) then true else (!x5)) then true else (!x6)))=true then Q6 x1.Body else some default)>>=fun x7=>
   if (bif (bif (bif (bif (!x3) then true else (!x4)) then true else (!x5)) then true else (!x6)) then true else (!x7))=true then
    some false
   else
    B9 l (IntKind.i64.wrap (i+1))
 else
  some true
 partial_fixpoint
end
abbrev Mq (l:List B0)(res:Bool):Prop:=L0 C 83 [.d (.sl (B0.rows l))] [] (Ret [] (.d (.bool res)))
abbrev Qy (l:List B0)(i:Int)(res:Bool):Prop:=LM C 63 0 Tryz.f83 [1,0,1,4] [(0,.d (.sl (B0.rows l))),(3,.d (.int .i64 i))] [] (Ret [] (.d (.bool res)))
theorem H10:(∀ l b,M7 l=some b→Mq l b)∧(∀ l i b,B9 l i=some b→Qy l i b):=by
 refine M7.mutual_partial_correctness _ _ ?_ ?_
 ·intro p e l b a
  exact L0.intro hC Tryz.func83 R R R (t' R (S' (t' R (bk' (fq (e _ _ _ a) R)))))
 ·intro w p f e l i b a
  refine Y0.unroll (S' (p' 2 R (qe' R trivial (B0.lenA _) (e' R (ci' R a (fun a=>?_) (fun a=>?_))))))
  ·obtain ⟨x1,g,a⟩:=bs' a
   obtain ⟨x2,n,a⟩:=bs' a
   refine sk' (S' (bk' (p' 2 R (i' R (D1 g) (B0.idx g) R (q' R (E0.nf hC R (E0.s hC R (n' (S' (sg' 20 R (G' 2 R (AG.c R R (fun _=>trivial) (fun _=>Sh n) (G' 3 R ?_)))))))))))))
   refine a1' R (a1' R (a1' R (a1' R (a0' R (a1' R (a1' R (a1' R (a0' R (a1' R (a1' R (pO' R (pA' R (po' R ?_)))))))))))))
   refine an' (n' (ci' R a (fun a=>?_) (fun a=>?_)))
   ·cases a
    exact t' R (re' (rq R))
   obtain ⟨v,k,a⟩:=bs' a
   obtain ⟨q,m,a⟩:=bs' a
   obtain ⟨u,h,a⟩:=bs' a
   obtain ⟨r,o,a⟩:=bs' a
   obtain ⟨t,j,a⟩:=bs' a
   refine sk' (sg' 28 R (G' 2 R (AG.c R R (fun _=>trivial) (fun _=>N14 k) (G' 3 R (a1' R (AG.c R R (fun hg=>⟨hg,trivial⟩) (fun d=>Fg (G1 d m)) (a1' R (po' R (G' 2 R (a1' R (AG.c R R (fun hg=>⟨hg,trivial⟩) (fun d=>f _ _ (G1 d h)) (a1' R (po' R ?_)))))))))))))
   refine G' 2 R (a1' R (AG.c R R (fun hg=>⟨hg,trivial⟩) (fun d=>f _ _ (G1 d o)) (a1' R (po' R (G' 2 R (a1' R (AG.c R R (fun hg=>⟨hg,trivial⟩) (fun d=>Jp (G1 d j)) (a1' R (po' R (an' (n' (ci' R a (fun a=>?_) (fun a=>?_)))))))))))))
   ·cases a
    exact t' R (re' (rq R))
   exact sk' (T' R (lq (e _ _ _ a) R))
  cases a
  exact ex' (t' R (re' (rq R)))
theorem M12 {l res}(a:M7 l=some res):Mq l res:=(H10).1 _ _ a
def Uk (s:O0)(form:Bool)(names:Bool)(numbers:Bool):Option Int:=
 if (bif (decide (s.nodes > 1024)) then true else (decide (s.depth > 12)))=true then
  some 4
 else
  if (!form)=true then
   some 1
  else
   if (!names)=true then
    some 7
   else
    if (!numbers)=true then
     some 3
    else
     some 0
theorem Y1b {s form names numbers res}(a:Uk s form names numbers=some res):L0 C 77 [.agg (O0.cells s),.d (.bool form),.d (.bool names),.d (.bool numbers)] [] (Ret [] (.d (.int .i64 res))):=by
 unfold Uk at a
 refine L0.intro hC Tryz.func77 R R R (s' R R (E0.n hC R (e' R (S' (sg' 8 R (G' 5 R (a1' R (a1' R (po' R (an' (n' (ci' R a (fun a=>?_) (fun a=>?_)))))))))))))
 ·cases a
  exact t' R (re' (rq R))
 refine sk' (S' (t' R (ci' R a (fun a=>?_) (fun a=>?_))))
 ·cases a
  exact t' R (re' (rq R))
 refine sk' (S' (t' R (ci' R a (fun a=>?_) (fun a=>?_))))
 ·cases a
  exact t' R (re' (rq R))
 refine sk' (S' (t' R (ci' R a (fun a=>?_) (fun a=>?_))))
 ·cases a
  exact t' R (re' (rq R))
 cases a
 exact sk' (t' R (re' (rq R)))
def Zn (p:S0):Option Int:=
 Xn p>>=fun x1=>
 Va p.Decls>>=fun x2=>
 (if x2=true then U8 p.Body else some default)>>=fun x3=>
 S9 p.Decls>>=fun x4=>
 (if x4=true then W7 p.Body else some default)>>=fun x5=>
 M7 p.Decls>>=fun x6=>
 (if x6=true then Q6 p.Body else some default)>>=fun x7=>
 Uk x1 (bif x2 then x3 else false) (bif x4 then x5 else false) (bif x6 then x7 else false)>>=fun x8=>
 some x8
theorem P1f {p res}(a:Zn p=some res):L0 C 42 [.agg (S0.cells p)] [] (Ret [] (.d (.int .i64 res))):=by
 unfold Zn at a
 obtain ⟨x1,k,a⟩:=bs' a
 obtain ⟨x2,i,a⟩:=bs' a
 obtain ⟨r,f,a⟩:=bs' a
 obtain ⟨m,g,a⟩:=bs' a
 obtain ⟨q,l,a⟩:=bs' a
 obtain ⟨t,j,a⟩:=bs' a
 obtain ⟨o,e,a⟩:=bs' a
 obtain ⟨s,h,a⟩:=bs' a
 cases a
 refine L0.intro hC Tryz.func42 R R R (s' R R (E0.n hC R (e' R (S' (AEx.drawG hC 28 R R R (a0' R (AG.c R R (fun _=>trivial) (fun _=>N1f k) (G' 2 R (AG.c R R (fun _=>trivial) (fun _=>N18 i) (G' 2 R (a1' R (AG.c R R (fun hg=>⟨hg,trivial⟩) (fun b=>Cu (G1 b f)) (pa' R ?_)))))))))))))
 refine G' 2 R (AG.c R R (fun _=>trivial) (fun _=>Y16 g) (G' 2 R (a1' R (AG.c R R (fun hg=>⟨hg,trivial⟩) (fun b=>Lr (G1 b l)) (pa' R (G' 2 R (AG.c R R (fun _=>trivial) (fun _=>M12 j) (G' 2 R (a1' R (AG.c R R (fun hg=>⟨hg,trivial⟩) (fun b=>Jp (G1 b e)) (pa' R ?_)))))))))))
 exact AG.c R R (fun _=>trivial) (fun _=>Y1b h) (a0' R (an' (n' (re' (rq R)))))
def Ao (text:Str):Option (S0×Int×Int):=
 Ip text>>=fun x1=>
 if (x1.2.2 != 0)=true then
  some ((S0.mk [] []),x1.2.1,x1.2.2)
 else
  Mb x1.1 0>>=fun x2=>
  if (bif (!x2.2.2) then true else (decide (x2.2.1 < ((x1.1).length:Int))))=true then
   Nm text x1.1 x2.2.1>>=fun x3=>
   some ((S0.mk [] []),x3,6)
  else
   Zn x2.1>>=fun x4=>
   if (x4 != 0)=true then
    some ((S0.mk [] []),0,x4)
   else
    some (x2.1,0,0)
theorem Q1f {text res}(a:Ao text=some res):L0 C 24 [.d (.str text)] [] (Ret [] (.tup [.agg (S0.cells res.1),.d (.int .i64 res.2.1),.d (.int .i64 res.2.2)])):=by
 unfold Ao at a
 obtain ⟨x1,e,a⟩:=bs' a
 refine L0.intro hC Tryz.func24 R R R (s' R R (E0.nf hC R (e' R (p' 1 R (cq (L1k e) R (e' R (S' (t' R (ci' R a (fun a=>?_) (fun a=>?_))))))))))
 ·cases a
  exact p' 3 R (E0.s hC R (e' R (re' (rq R))))
 obtain ⟨x2,b,a⟩:=bs' a
 refine sk' (p' 1 R (cq (W1b b) R (o' 4 R (E0.nf hC R (E0.s hC R (e' R (S' (sg' 8 R (G' 5 R (AG.qe hC R (fun hg=>⟨⟨hg,trivial⟩,trivial⟩) (I0.lenA _) (a2' R (po' R (an' ?_)))))))))))))
 refine n' (ci' R a (fun a=>?_) (fun a=>?_))
 ·obtain ⟨h,f,a⟩:=bs' a
  cases a
  exact p' 4 R (cq (E1e f) R (E0.s hC R (e' R (re' (rq R)))))
 obtain ⟨g,c,a⟩:=bs' a
 refine sk' (p' 1 R (cq (P1f c) R (e' R (S' (t' R (ci' R a (fun a=>?_) (fun a=>?_)))))))
 ·cases a
  exact p' 2 R (E0.s hC R (e' R (re' (rq R))))
 cases a
 exact sk' (p' 1 R (E0.s hC R (e' R (re' (rq R)))))
def Vk (family:Str)(a:Int)(b:Int):Option S0:=
 A4 family a b>>=fun x1=>
 Ao x1>>=fun x2=>
 some x2.1
theorem Z1b {family a b res}(c:Vk family a b=some res):L0 C 10 [.d (.str family),.d (.int .i64 a),.d (.int .i64 b)] [] (Ret [] (.agg (S0.cells res))):=by
 unfold Vk at c
 obtain ⟨x1,f,c⟩:=bs' c
 obtain ⟨x2,e,c⟩:=bs' c
 cases c
 refine L0.intro hC Tryz.func10 R R R (s' R R (E0.nf hC R (n' (p' 3 R (cq (G1i f) R (cq (Q1f e) R (o' 4 R (E0.nf hC R (E0.s hC R (e' R (p' 1 R (E0.s hC R (n' ?_)))))))))))))
 exact re' (rq R)
def J2 (family:Str)(a:Int)(b:Int):Option Bool:=
 U6>>=fun x1=>
 if (!x1)=true then
  some false
 else
  if (decide (((family).length:Int) > 100))=true then
   some true
  else
   K3 family a b>>=fun x2=>
   Ye family a b>>=fun x3=>
   if (x3 != 0)=true then
    (if (x2.2 == x3)=true then Cl x2.1 (S0.mk [] []) else some default)>>=fun x4=>
    some (bif (x2.2 == x3) then x4 else false)
   else
    (if (x2.2 == 0)=true then Vk family a b else some default)>>=fun x5=>
    (if (x2.2 == 0)=true then Cl x2.1 x5 else some default)>>=fun x6=>
    some (bif (x2.2 == 0) then x6 else false)
theorem N12 {family a b res}(e:J2 family a b=some res):L0 C 3 [.d (.str family),.d (.int .i64 a),.d (.int .i64 b)] [] (Ret [] (.d (.bool res))):=by
 unfold J2 at e
 obtain ⟨x1,j,e⟩:=bs' e
 refine L0.intro hC Tryz.func3 R R R (t' R (S' (s' R R (cq (I1f j) R (e' R (ci' R e (fun e=>?_) (fun e=>?_)))))))
 ·cases e
  exact t' R (re' (rq R))
 refine sk' (S' (t' R (ci' R e (fun e=>?_) (fun e=>?_))))
 ·cases e
  exact t' R (re' (rq R))
 obtain ⟨x2,g,e⟩:=bs' e
 obtain ⟨p,k,e⟩:=bs' e
 refine sk' (p' 3 R (cq (Zy g) R (o' 3 R (E0.nf hC R (E0.s hC R (e' R (S' (p' 3 R (cq (T1d k) R (e' R (t' R (ci' R e (fun e=>?_) (fun e=>?_)))))))))))))
 ·obtain ⟨m,i,e⟩:=bs' e
  cases e
  exact sg' 9 R (G' 6 R (AG.c R R (fun hg=>⟨hg,hg,trivial⟩) (fun f=>U11 (G1 f i)) (pa' R (a0' R (an' (n' (re' (rq R))))))))
 obtain ⟨n,l,e⟩:=bs' e
 obtain ⟨o,h,e⟩:=bs' e
 cases e
 exact sk' (S' (AEx.drawG hC 11 R R R (G' 7 R (AG.c R R (fun hg=>⟨hg,hg,hg,trivial⟩) (fun f=>Z1b (G1 f l)) (AG.c R R (fun hg=>⟨hg,hg,trivial⟩) (fun f=>U11 (G1 f h)) (pa' R (a0' R (an' (n' (re' (rq R)))))))))))
end Go.Proofs.YtbaijagfgceilaaGreatDoor

