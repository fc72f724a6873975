/- A part of the proof of CatalogMakes. -/
import Derived.Test.YtbaijagfgceilaaGreatDoorDgA
set_option maxRecDepth 100000
set_option maxHeartbeats 4000000
set_option synthInstance.maxSize 20000
set_option linter.unusedVariables false
namespace Go.Proofs.YtbaijagfgceilaaGreatDoor
open Go.Am
def C6 (o0:D0)(o2_Decls:List B0):Option (Pn (S0×D0)):=
 S5 o0>>=fun x1=>match x1 with
 | .pn nn=>
 some (.pn nn)
 | .ok x1=>
 if (!x1.2.1)=true then
  U0 [98,101,103,105,110] x1.2.2>>=fun x2=>match x2 with
  | .pn nn=>
  some (.pn nn)
  | .ok x2=>
  V3 x2>>=fun x3=>match x3 with
  | .pn nn=>
  some (.pn nn)
  | .ok x3=>
  U0 [101,110,100] x3.2>>=fun x4=>match x4 with
  | .pn nn=>
  some (.pn nn)
  | .ok x4=>
  some (.ok ((S0.mk o2_Decls x3.1),x4))
 else
  if (decide ((o2_Decls.length+1) * 257≤140737488355328))=true then
   C6 x1.2.2 (o2_Decls++[x1.1])
  else none
 partial_fixpoint
abbrev Lk (o0:D0)(o2_Decls:List B0)(res:Pn (S0×D0)):Prop:=LMp C 27 1 Tryz.f35 [1,1,0,4] [(0,.ref 0 0),(2,.ref 1 0),(3,.ref 2 0)] [.row (D0.cells o0) 112,.row [.full (B0.rows []),.full (C0.rows [])] 26,.row [.osl 3 (B0.rows o2_Decls),.full (C0.rows [])] 26,.tok 82 17] (X4 res (fun rr=>[.row (D0.cells rr.2) 112]) (fun rr=>.agg (S0.cells rr.1))) (P4 res N3 [.dead])
theorem Cs:(∀ j a c,C6 j a=some c→Lk j a c):=by
 refine C6.partial_correctness _ ?_
 ·intro o i j a c b
  refine Y0.unroll (bk' (p' 1 R ?_))
  rcases bp' b with ⟨nn,f,⟨⟩⟩ | ⟨x1,f,b⟩
  ·exact gr [0] (Wi f) R (peW ⟨trivial,trivial⟩ R)
  refine gq [0] ((Wi f).ok) R (o' 3 R (E0.nf hC R (E0.s hC R (e' R (S' (t' R (ci' R b (fun b=>?_) (fun b=>?_))))))))
  ·refine ex' (p' 1 R ?_)
   rcases bp' b with ⟨nn,e,⟨⟩⟩ | ⟨x2,e,b⟩
   ·exact gr [0] (K0 e) R (peW ⟨trivial,trivial⟩ R)
   refine gq [0] ((K0 e).ok) R (n' (p' 1 R ?_))
   rcases bp' b with ⟨nn,h,⟨⟩⟩ | ⟨n,h,b⟩
   ·exact gr [0] (Ma h) R (peW ⟨trivial,trivial⟩ R)
   refine gq [0] ((Ma h).ok) R (q' R (E0.s hC R (n' (p' 1 R ?_))))
   rcases bp' b with ⟨nn,g,⟨⟩⟩ | ⟨l,g,b⟩
   ·exact gr [0] (K0 g) R (peW ⟨trivial,trivial⟩ R)
   refine gq [0] ((K0 g).ok) R (n' (p' 1 R (E0.s hC R (n' (re' ?_)))))
   have k:=oi' b
   subst k
   exact ⟨_,.agg [.d (.sl (B0.rows a)),.d (.sl (C0.rows n.1))],[.row (D0.cells l) 112],R,(.aggL ⟨.osl,.rfl,trivial⟩),⟨⟨R,.refl _,R⟩,trivial⟩,R,R,rpq R R⟩
  obtain ⟨m,b⟩:=Z0 b
  exact sk' (P' 3 R (E0.be hC R (B0.rows_map [x1.1]).symm (E0.ap hC R (rs:=B0.rows (a++[x1.1])) (B0.app a [x1.1]) (B0.sz a) (B0.sz [x1.1]) (N1 (B0.len a) (B0.len [x1.1]) m) (q' R (E0.s hC R (n' (lq (i _ _ _ b) R)))))))
theorem Pt {o0 o2_Decls res}(a:C6 o0 o2_Decls=some res):Lk o0 o2_Decls res:=(Cs) _ _ _ a
def Y4 (parserParser:D0):Option (Pn (S0×D0)):=
 C6 parserParser []
theorem Gm {parserParser res}(b:Y4 parserParser=some res):F2 C 35 [.ref 0 0] [.row (D0.cells parserParser) 112] (X4 res (fun a=>[.row (D0.cells a.2) 112]) (fun a=>.agg (S0.cells a.1))) (P4 res N3 [.dead]):=by
 unfold Y4 at b
 exact F2.intro hC Tryz.func35 R R R (s' R R (E0.nf hC R (n' (s' R R (E0.nf hC R (E0.tokC 2 0 82 17 R R R R R (n' (S' (bk' (fq (Pt b) R))))))))))
def Xi (parserParser:D0)(apiProgram:S0):Option (Pn (D0×S0)):=
 Y4 parserParser>>=fun x1=>match x1 with
 | .pn nn=>
 some (.pn nn)
 | .ok x1=>
 some (.ok (x1.2,x1.1))
theorem Tu {parserParser apiProgram res}(b:Xi parserParser apiProgram=some res):F2 C 34 [.ref 0 0,.ref 1 0] [.row (D0.cells parserParser) 112,.row [.full (B0.rows apiProgram.Decls),.full (C0.rows apiProgram.Body)] 26] (X4 res (fun c=>[.row (D0.cells c.1) 112,.row (S0.cells c.2) 26]) (fun c=>.tup [])) (P4 res N3 [.dead,.row [.full (B0.rows apiProgram.Decls),.full (C0.rows apiProgram.Body)] 26]):=by
 unfold Xi at b
 refine F2.intro hC Tryz.func34 R R R (P' 1 R ?_)
 rcases bp' b with ⟨nn,a,⟨⟩⟩ | ⟨x1,a,b⟩
 ·exact gr [0] (Gm a) R (fun hi=>peW ⟨trivial,⟨R,.refl _,R⟩,trivial⟩ R hi)
 cases b
 exact gq [0] ((Gm a).ok) R (E0.s hC R (n' (rn' R R R)))
def Yi (text:Str)(apiProgram:S0):Option (Int×Int×S0):=
 Cp text>>=fun x1=>
 if (x1.2.2 != 0)=true then
  some (x1.2.1,x1.2.2,apiProgram)
 else
  Xi (D0.mk x1.1 0 ((text).length:Int)) apiProgram>>=fun x2=>match x2 with
  | .pn nn=>
  some (nn,6,apiProgram)
  | .ok x2=>
  if (decide (x2.1.next < ((x2.1.tokens).length:Int)))=true then
   H9 x2.1>>=fun x3=>match x3 with
   | .pn nn=>
   some (nn,6,x2.2)
   | .ok x3=>
   some (0,0,x2.2)
  else
   some (0,0,x2.2)
theorem W19 {text apiProgram res}(a:Yi text apiProgram=some res):L0 C 33 [.d (.str text),.clo 34 [.ref 0 0]] [.row [.full (B0.rows apiProgram.Decls),.full (C0.rows apiProgram.Body)] 26] (Ret [.row (S0.cells res.2.2) 26] (.tup [.d (.int .i64 res.1),.d (.int .i64 res.2.1)])):=by
 unfold Yi at a
 obtain ⟨x1,f,a⟩:=bs' a
 refine L0.introD hC Tryz.func33 R R R (s' R R (E0.n hC R (E0.n hC R (n' (p' 1 R (cq (K1k f) R (o' 5 R (E0.s hC R (E0.s hC R (n' (S' (t' R (ci' R a (fun a=>?_) (fun a=>?_))))))))))))))
 ·refine S' (AEx.drawL hC 3 [2] [] [[.row [.full (B0.rows apiProgram.Decls),.full (C0.rows apiProgram.Body)] 26,.row [.d (.int .i64 x1.2.1)] 3,.row [.d (.int .i64 x1.2.2)] 27],[.row [.full (B0.rows apiProgram.Decls),.full (C0.rows apiProgram.Body)] 26,.row [.d (.int .i64 x1.2.1)] 3,.row [.d (.int .i64 x1.2.2)] 27]] R R R R R R R R R R (AS.q hC R R R R ?_))
  refine AS.q hC R R R R (AS.s hC R R R R R R R (AS.nil (E0.s hC R (n' (re' ?_)))))
  have e:=oi' a
  subst e
  exact ⟨_,_,[.row (S0.cells apiProgram) 26],R,.rfl,⟨⟨R,⟨.full,.full,trivial⟩,R⟩,trivial⟩,R,R,R,R⟩
 refine sk' (AEx.dfr hC K1p Q1r R R R R R R fun _=>(p' 4 R (E0.n hC R (e' R (p' 2 R ?_)))))
 rcases bp' a with ⟨nn,b,a⟩ | ⟨x2,b,a⟩
 ·have e:=oi' a; subst e
  exact gr [3,0] (Tu b) R (fun hi=>dfk hi R R R (⟨_,_,[.row (S0.cells apiProgram) 26],R,.rfl,⟨⟨R,⟨.full,.full,trivial⟩,R⟩,trivial⟩,R,R,R,R⟩))
 refine gq [3,0] ((Tu b).ok) R (n' (S' (S' (AEx.draw hC 10 R R R (O' 8 R (AQ.qe hC R trivial (I0.lenA _) (E' R (n' (ci' R a (fun a=>?_) (fun a=>?_))))))))))
 ·refine P' 1 R ?_
  rcases bp' a with ⟨nn,c,a⟩ | ⟨g,c,a⟩
  ·cases a
   exact gr [3] (Y8 c) R (fun hi=>dfk hi R R R (rq R))
  cases a
  exact gq [3] ((Y8 c).ok) R (n' (s' R R (E0.s hC R (E0.s hC R (n' (re' (rq R)))))))
 cases a
 exact sk' (s' R R (E0.s hC R (E0.s hC R (n' (re' (rq R))))))
def Pl (k:Int):Option (Bool×Bool):=
 some ((bif (decide (k≥0)) then (decide (k≤6)) else false),(bif (k == 5) then true else (k == 6)))
theorem S17 {k res}(a:Pl k=some res):L0 C 165 [.d (.int .i64 k)] [] (Ret [] (.tup [.d (.bool res.1),.d (.bool res.2)])):=by
 unfold Pl at a
 cases a
 exact L0.intro hC Tryz.func165 R R R (t' R (sg' 14 R (G' 4 R (a1' R (pa' R (G' 4 R (a1' R (po' R (G' 2 R (an' (n' (re' (rq R)))))))))))))
def F1 (ok:Bool)(syntaxReport:J0):Option J0:=
 some (J0.mk syntaxReport.nodes syntaxReport.depth (bif syntaxReport.badForm then true else (!ok)) syntaxReport.badName syntaxReport.badNumber)
theorem J1 {ok syntaxReport res}(a:F1 ok syntaxReport=some res):L0 C 166 [.ref 0 0,.d (.bool ok)] [.row (J0.cells syntaxReport) 154] (Ret [.row (J0.cells res) 154] (.tup [])):=by
 unfold F1 at a
 cases a
 exact L0.intro hC Tryz.func166 R R R (AEx.regionG 11 R (G' 7 R (a1' R (po' R (G' 2 R (an' (E0.s hC R (n' (rn' R R R)))))))))
def L3 (s1:List Str)(s2:List Str)(v13:Int):Option Bool:=
 if (decide (v13 < ((s1).length:Int)))=true then
  idx s1 v13>>=fun x1=>
  idx s2 v13>>=fun x2=>
  if (!(x1 == x2))=true then
   some false
  else
   L3 s1 s2 (IntKind.i64.wrap (v13+1))
 else
  some true
 partial_fixpoint
abbrev Ch (s1:List Str)(s2:List Str)(v13:Int)(res:Bool):Prop:=LM C 26 0 Tryz.f15 [1,1,0,1,4] [(0,.d (.sl (estr.rows s1))),(1,.d (.sl (estr.rows s2))),(12,.d (.int .i64 ((s1).length:Int))),(13,.d (.int .i64 v13))] [] (Ret [] (.d (.bool res)))
theorem Un (s1:List Str)(s2:List Str):(∀ c b,L3 s1 s2 c=some b→Ch s1 s2 c b):=by
 refine L3.partial_correctness s1 s2 _ ?_
 ·intro g f c b a
  refine Y0.unroll (t' R (S' (ci' R a (fun a=>?_) (fun a=>?_))))
  ·obtain ⟨x1,e,a⟩:=bs' a
   obtain ⟨x2,d,a⟩:=bs' a
   refine sk' (S' (bk' (t' R (S' (AEx.draw hC 9 R R R (O' 2 R (AQ.i hC R (D1 e) (estr.idx e) R (O' 3 R (AQ.i hC R (D1 d) (estr.idx d) R (E' R (n' (ci' R a (fun a=>?_) (fun a=>?_)))))))))))))
   ·cases a
    exact t' R (re' (rq R))
   exact sk' (T' R (lq (f _ _ a) R))
  cases a
  exact ex' (t' R (re' (rq R)))
theorem Ro {s1 s2 v13 res}(a:L3 s1 s2 v13=some res):Ch s1 s2 v13 res:=(Un s1 s2) _ _ a
def Z7 (s1:List Str)(s2:List Str):Option Bool:=
 if (((s1).length:Int) != ((s2).length:Int))=true then
  some false
 else
  L3 s1 s2 0
theorem Zq {s1 s2 res}(a:Z7 s1 s2=some res):L0 C 15 [.d (.sl (estr.rows s1)),.d (.sl (estr.rows s2))] [] (Ret [] (.d (.bool res))):=by
 unfold Z7 at a
 refine L0.intro hC Tryz.func15 R R R (t' R (S' (p' 1 R (qe' R trivial (estr.lenA _) (q' R (qe' R trivial (estr.lenA _) (e' R (ci' R a (fun a=>?_) (fun a=>?_)))))))))
 ·cases a
  exact t' R (re' (rq R))
 exact sk' (S' (p' 1 R (qe' R trivial (estr.lenA _) (e' R (bk' (fq (Ro a) R))))))
mutual
def J9 (a:F0)(b:F0):Option Bool:=
 (if (bif (bif (bif (bif (a.Kind == b.Kind) then (a.Low == b.Low) else false) then (a.High == b.High) else false) then (a.Size == b.Size) else false) then (a.Name == b.Name) else false)=true then Z7 a.Names b.Names else some default)>>=fun x1=>
 (if (bif (bif (bif (bif (bif (a.Kind == b.Kind) then (a.Low == b.Low) else false) then (a.High == b.High) else false) then (a.Size == b.Size) else false) then (a.Name == b.Name) else false) then x1 else false)=true then O3 a.Of b.Of else some default)>>=fun x2=>
 some (bif (bif (bif (bif (bif (bif (a.Kind == b.Kind) then (a.Low == b.Low) else false) then (a.High == b.High) else false) then (a.Size == b.Size) else false) then (a.Name == b.Name) else false) then x1 else false) then x2 else false)
 partial_fixpoint
def O3 (s1:List F0)(s2:List F0):Option Bool:=
 if (((s1).length:Int) != ((s2).length:Int))=true then
  some false
 else
  A2 s1 s2 0
 partial_fixpoint
def A2 (s1:List F0)(s2:List F0)(v17:Int):Option Bool:=
 if (decide (v17 < ((s1).length:Int)))=true then
  idx s1 v17>>=fun x1=>
  idx s2 v17>>=fun x2=>
  J9 x1 x2>>=fun x3=>
  if (!x3)=true then
   some false
  else
   A2 s1 s2 (IntKind.i64.wrap (v17+1))
 else
  some true
 partial_fixpoint
end
abbrev Qt (a:F0)(b:F0)(res:Bool):Prop:=L0 C 167 [.agg (F0.cells a),.agg (F0.cells b)] [] (Ret [] (.d (.bool res)))
abbrev We (s1:List F0)(s2:List F0)(res:Bool):Prop:=L0 C 205 [.d (.sl (F0.rows s1)),.d (.sl (F0.rows s2)),.clo 167 []] [] (Ret [] (.d (.bool res)))
abbrev Xd (s1:List F0)(s2:List F0)(v17:Int)(res:Bool):Prop:=LM C 32 0 Tryz.f205 [1,1,0,1,4] [(1,.d (.sl (F0.rows s2))),(2,.clo 167 []),(15,.d (.sl (F0.rows s1))),(16,.d (.int .i64 ((s1).length:Int))),(17,.d (.int .i64 v17))] [] (Ret [] (.d (.bool res)))
theorem J13:(∀ a b e,J9 a b=some e→Qt a b e)∧(∀ s1 s2 e,O3 s1 s2=some e→We s1 s2 e)∧(∀ s1 s2 i e,A2 s1 s2 i=some e→Xd s1 s2 i e):=by
 refine J9.mutual_partial_correctness _ _ _ ?_ ?_ ?_
 ·intro p m a b e d
  obtain ⟨x1,g,d⟩:=bs' d
  obtain ⟨x2,f,d⟩:=bs' d
  cases d
  refine L0.intro hC Tryz.func167 R R R (s' R R (E0.n hC R (E0.n hC R (e' R (sg' 48 R (G' 7 R (a1' R (a0' R (a1' R (a2' R (pa' R (G' 2 R (a1' R ?_)))))))))))))
  refine a0' R (a1' R (a2' R (pa' R (G' 2 R (a1' R (a0' R (a1' R (a2' R (pa' R (G' 2 R (a1' R (a0' R (a1' R ?_)))))))))))))
  refine a2' R (pa' R (G' 2 R (a1' R (a0' R (a1' R (AG.c R R (fun hg=>⟨hg,hg,trivial⟩) (fun l=>Zq (G1 l g)) (pa' R (G' 2 R (a1' R (a0' R (a1' R (AG.c R R (fun hg=>⟨hg,hg,trivial⟩) (fun l=>m _ _ _ (G1 l f)) (pa' R ?_)))))))))))))
  exact a0' R (an' (n' (re' (rq R))))
 ·intro o h s1 s2 e d
  refine L0.intro hC Tryz.func205 R R R (t' R (S' (p' 1 R (qe' R trivial (F0.lenA _) (q' R (qe' R trivial (F0.lenA _) (e' R (ci' R d (fun d=>?_) (fun d=>?_)))))))))
  ·cases d
   exact t' R (re' (rq R))
  exact sk' (S' (p' 1 R (qe' R trivial (F0.lenA _) (e' R (bk' (fq (h _ _ _ _ d) R))))))
 ·intro r o j h s1 s2 i e d
  refine Y0.unroll (t' R (S' (ci' R d (fun d=>?_) (fun d=>?_))))
  ·obtain ⟨x1,g,d⟩:=bs' d
   obtain ⟨x2,f,d⟩:=bs' d
   obtain ⟨q,k,d⟩:=bs' d
   refine sk' (S' (bk' (p' 1 R (i' R (D1 g) (F0.idx g) R (q' R (E0.nf hC R (q' R (E0.s hC R (n' (p' 2 R (i' R (D1 f) (F0.idx f) R (q' R (E0.nf hC R ?_)))))))))))))
   refine E0.s hC R (n' (p' 3 R (cq (j _ _ _ k) R (e' R (ci' R d (fun d=>?_) (fun d=>?_))))))
   ·cases d
    exact t' R (re' (rq R))
   exact sk' (T' R (lq (h _ _ _ _ d) R))
  cases d
  exact ex' (t' R (re' (rq R)))
theorem W15 {a b res}(c:J9 a b=some res):Qt a b res:=(J13).1 _ _ _ c
def K9 (d:Int)(syntaxReport:J0):Option J0:=
 some (J0.mk syntaxReport.nodes (max syntaxReport.depth d) syntaxReport.badForm syntaxReport.badName syntaxReport.badNumber)
theorem Zi {d syntaxReport res}(a:K9 d syntaxReport=some res):L0 C 173 [.ref 0 0,.d (.int .i64 d)] [.row (J0.cells syntaxReport) 154] (Ret [.row (J0.cells res) 154] (.tup [])):=by
 unfold K9 at a
 cases a
 exact L0.intro hC Tryz.func173 R R R (P' 9 R (E0.s hC R (n' (rn' R R R))))
def J4 (n:Int)(low:Int)(high:Int):Option Bool:=
 some (bif (decide (n≥low)) then (decide (n≤high)) else false)
theorem G5 {n low high res}(a:J4 n low high=some res):L0 C 172 [.d (.int .i64 n),.d (.int .i64 low),.d (.int .i64 high)] [] (Ret [] (.d (.bool res))):=by
 unfold J4 at a
 cases a
 exact L0.intro hC Tryz.func172 R R R (t' R (sg' 9 R (G' 6 R (a2' R (pa' R (a0' R (an' (n' (re' (rq R))))))))))
def S2 (ok:Bool)(syntaxReport:J0):Option J0:=
 some (J0.mk syntaxReport.nodes syntaxReport.depth syntaxReport.badForm syntaxReport.badName (bif syntaxReport.badNumber then true else (!ok)))
theorem S3 {ok syntaxReport res}(a:S2 ok syntaxReport=some res):L0 C 171 [.ref 0 0,.d (.bool ok)] [.row (J0.cells syntaxReport) 154] (Ret [.row (J0.cells res) 154] (.tup [])):=by
 unfold S2 at a
 cases a
 exact L0.intro hC Tryz.func171 R R R (AEx.regionG 11 R (G' 7 R (a1' R (po' R (G' 2 R (an' (E0.s hC R (n' (rn' R R R)))))))))
def Na (s:Str)(v6:Int):Option Bool:=
 if (decide (v6 < ((s).length:Int)))=true then
  idx s v6>>=fun x1=>
  Mg (x1.toNat:Int)>>=fun x2=>
  (if ((!x2)&&(!(v6 == 0)))=true then idx s v6 else some default)>>=fun x3=>
  (if ((!x2)&&(!(v6 == 0)))=true then Pd (x3.toNat:Int) else some default)>>=fun x4=>
  if (bif (!x2) then (bif (v6 == 0) then true else (!x4)) else false)=true then
   some false
  else
   Na s (IntKind.i64.wrap (v6+1))
 else
  some (!(s == []))
 partial_fixpoint
abbrev Uu (s:Str)(v6:Int)(res:Bool):Prop:=LM C 28 0 Tryz.f230 [1,0,1,4] [(0,.d (.str s)),(5,.d (.int .i64 ((s).length:Int))),(6,.d (.int .i64 v6))] [] (Ret [] (.d (.bool res)))
theorem X15 (s:Str):(∀ j b,Na s j=some b→Uu s j b):=by
 refine Na.partial_correctness s _ ?_
 ·intro m i j b a
  refine Y0.unroll (t' R (S' (ci' R a (fun a=>?_) (fun a=>?_))))
  ·obtain ⟨x1,d,a⟩:=bs' a
   obtain ⟨x2,g,a⟩:=bs' a
   obtain ⟨l,e,a⟩:=bs' a
   obtain ⟨k,h,a⟩:=bs' a
   refine sk' (S' (bk' (t' R (sg' 16 R (G' 2 R (AG.x hC R R (fun _=>trivial) (fun f=>⟨D1 d,X5 d⟩) (AG.c R R (fun _=>trivial) (fun _=>Mn g) (G' 3 R (a1' R (a1' R (G' 2 R (AG.x hC R R (fun hg=>⟨hg,hg,trivial⟩) (fun f=>⟨D1 (G1 f e),X5 (G1 f e)⟩) (AG.c R R (fun hg=>⟨hg,trivial⟩) (fun f=>Yj (G1 f h)) ?_)))))))))))))
   refine a1' R (pO' R (pa' R (an' (n' (ci' R a (fun a=>?_) (fun a=>?_))))))
   ·cases a
    exact t' R (re' (rq R))
   exact sk' (T' R (lq (i _ _ a) R))
  cases a
  exact ex' (t' R (re' (rq R)))
theorem T17 {s v6 res}(a:Na s v6=some res):Uu s v6 res:=(X15 s) _ _ a
def Aq (s:Str):Option Bool:=
 Na s 0
theorem O1d {s res}(a:Aq s=some res):L0 C 230 [.d (.str s)] [] (Ret [] (.d (.bool res))):=by
 unfold Aq at a
 exact L0.intro hC Tryz.func230 R R R (t' R (S' (t' R (bk' (fq (T17 a) R)))))
def Bq (s:Str):Option Bool:=
 (if (decide (((s).length:Int)≤12))=true then Aq s else some default)>>=fun x1=>
 (if (bif (decide (((s).length:Int)≤12)) then x1 else false)=true then Ce s else some default)>>=fun x2=>
 some (bif (bif (decide (((s).length:Int)≤12)) then x1 else false) then (!x2) else false)
theorem P1d {s res}(a:Bq s=some res):L0 C 224 [.d (.str s)] [] (Ret [] (.d (.bool res))):=by
 unfold Bq at a
 obtain ⟨x1,e,a⟩:=bs' a
 obtain ⟨x2,b,a⟩:=bs' a
 cases a
 exact L0.intro hC Tryz.func224 R R R (t' R (sg' 13 R (G' 5 R (AG.c R R (fun hg=>⟨hg,trivial⟩) (fun f=>O1d (G1 f e)) (pa' R (G' 2 R (AG.c R R (fun hg=>⟨hg,trivial⟩) (fun f=>Ru (G1 f b)) (a1' R (pa' R (a0' R (an' (n' (re' (rq R))))))))))))))
def Mk (s:Str):Option Bool:=
 Bq s>>=fun x1=>
 some x1
theorem N1b {s res}(a:Mk s=some res):L0 C 206 [.d (.str s)] [] (Ret [] (.d (.bool res))):=by
 unfold Mk at a
 obtain ⟨x1,b,a⟩:=bs' a
 cases a
 exact L0.intro hC Tryz.func206 R R R (t' R (p' 1 R (cq (P1d b) R (e' R (re' (rq R))))))
def V5 (s:Str)(syntaxReport:J0):Option J0:=
 (if (!syntaxReport.badName)=true then Mk s else some default)>>=fun x1=>
 some (J0.mk syntaxReport.nodes syntaxReport.depth syntaxReport.badForm (bif syntaxReport.badName then true else (!x1)) syntaxReport.badNumber)
theorem Bc {s syntaxReport res}(a:V5 s syntaxReport=some res):L0 C 169 [.ref 0 0,.d (.str s)] [.row (J0.cells syntaxReport) 154] (Ret [.row (J0.cells res) 154] (.tup [])):=by
 unfold V5 at a
 obtain ⟨x1,b,a⟩:=bs' a
 cases a
 exact L0.intro hC Tryz.func169 R R R (AEx.regionG 12 R (G' 7 R (AG.c R R (fun hg=>⟨hg,trivial⟩) (fun e=>N1b (G1 e b)) (a1' R (po' R (G' 2 R (an' (E0.s hC R (n' (rn' R R R))))))))))
mutual
def Y6 (t:F0)(depth:Int)(syntaxReport:J0):Option J0:=
 K9 depth (J0.mk (IntKind.i64.wrap (syntaxReport.nodes+1)) syntaxReport.depth syntaxReport.badForm syntaxReport.badName syntaxReport.badNumber)>>=fun x1=>
 F1 (bif (decide (t.Kind≥0)) then (decide (t.Kind≤4)) else false) x1>>=fun x2=>
 F1 (bif (t.Kind == 1) then true else (bif (t.Low == 0) then (t.High == 0) else false)) x2>>=fun x3=>
 F1 (bif (t.Kind == 2) then true else (t.Size == 0)) x3>>=fun x4=>
 F1 (bif (t.Kind == 4) then true else (t.Name == [])) x4>>=fun x5=>
 F1 (bif (t.Kind == 3) then true else (((t.Names).length:Int) == 0)) x5>>=fun x6=>
 if (t.Kind == 2)=true then
  F1 (((t.Of).length:Int) == 1) x6>>=fun x7=>
  J4 t.Size 1 32>>=fun x8=>
  S2 x8 x7>>=fun x9=>
  Aa t depth x9
 else
  if (t.Kind == 3)=true then
   F1 (bif (decide (((t.Of).length:Int)≥1)) then (((t.Of).length:Int) == ((t.Names).length:Int)) else false) x6>>=fun x14=>
   S2 (decide (((t.Of).length:Int)≤32)) x14>>=fun x15=>
   Aa t depth x15
  else
   F1 (((t.Of).length:Int) == 0) x6>>=fun x16=>
   Aa t depth x16
 partial_fixpoint
def Aa (t:F0)(depth:Int)(o0:J0):Option J0:=
 if (t.Kind == 1)=true then
  J4 t.Low (-1048576) 1048576>>=fun x10=>
  (if x10=true then J4 t.High t.Low 1048576 else some default)>>=fun x11=>
  S2 (bif x10 then x11 else false) o0>>=fun x12=>
  Ba t depth x12
 else
  Ba t depth o0
 partial_fixpoint
def Ba (t:F0)(depth:Int)(o01:J0):Option J0:=
 if (t.Kind == 4)=true then
  V5 t.Name o01>>=fun x13=>
  Bd t depth x13
 else
  Bd t depth o01
 partial_fixpoint
def Bd (t:F0)(depth:Int)(o02:J0):Option J0:=
 O6 t depth o02 0
 partial_fixpoint
def O6 (t:F0)(depth:Int)(o03:J0)(v147:Int):Option J0:=
 if (decide (v147 < ((t.Names).length:Int)))=true then
  idx t.Names v147>>=fun x17=>
  V5 x17 o03>>=fun x18=>
  O6 t depth x18 (IntKind.i64.wrap (v147+1))
 else
  R7 t depth o03 0
 partial_fixpoint
def R7 (t:F0)(depth:Int)(o04:J0)(v158:Int):Option J0:=
 if (decide (v158 < ((t.Of).length:Int)))=true then
  idx t.Of v158>>=fun x19=>
  Y6 x19 (IntKind.i64.wrap (depth+1)) o04>>=fun x20=>
  R7 t depth x20 (IntKind.i64.wrap (v158+1))
 else
  some o04
 partial_fixpoint
end
abbrev Cr (t:F0)(depth:Int)(syntaxReport:J0)(res:J0):Prop:=L0 C 168 [.ref 0 0,.agg (F0.cells t),.d (.int .i64 depth)] [.row (J0.cells syntaxReport) 154] (Ret [.row (J0.cells res) 154] (.tup []))
abbrev Wz (t:F0)(depth:Int)(o0:J0)(res:J0):Prop:=JM C 168 1 Tryz.f168 [1,1,1,1,1,1,1,1,1,1] [(0,.ref 0 0),(2,.d (.int .i64 depth)),(4,.ref 1 0),(6,.d (.bool (t.Kind == 1))),(9,.d (.bool (t.Kind == 4)))] [.row (J0.cells o0) 154,.row (F0.cells t) 76] (Ret [.row (J0.cells res) 154] (.tup []))
abbrev Xz (t:F0)(depth:Int)(o01:J0)(res:J0):Prop:=JM C 168 1 Tryz.f168 [1,1,1,1,1,1,1,1,1,1,1] [(0,.ref 0 0),(2,.d (.int .i64 depth)),(4,.ref 1 0),(9,.d (.bool (t.Kind == 4)))] [.row (J0.cells o01) 154,.row (F0.cells t) 76] (Ret [.row (J0.cells res) 154] (.tup []))
abbrev Yz (t:F0)(depth:Int)(o02:J0)(res:J0):Prop:=JM C 168 1 Tryz.f168 [1,1,1,1,1,1,1,1,1,1,1,1] [(0,.ref 0 0),(2,.d (.int .i64 depth)),(4,.ref 1 0)] [.row (J0.cells o02) 154,.row (F0.cells t) 76] (Ret [.row (J0.cells res) 154] (.tup []))
abbrev Zz (t:F0)(depth:Int)(o03:J0)(v147:Int)(res:J0):Prop:=LM C 168 1 Tryz.f168 [1,1,1,1,1,1,1,1,1,1,1,1,0,1,4] [(0,.ref 0 0),(2,.d (.int .i64 depth)),(4,.ref 1 0),(145,.d (.sl (estr.rows t.Names))),(146,.d (.int .i64 ((t.Names).length:Int))),(147,.d (.int .i64 v147))] [.row (J0.cells o03) 154,.row (F0.cells t) 76] (Ret [.row (J0.cells res) 154] (.tup []))
abbrev A10 (t:F0)(depth:Int)(o04:J0)(v158:Int)(res:J0):Prop:=LM C 168 1 Tryz.f168 [1,1,1,1,1,1,1,1,1,1,1,1,1,1,4] [(0,.ref 0 0),(2,.d (.int .i64 depth)),(156,.d (.sl (F0.rows t.Of))),(157,.d (.int .i64 ((t.Of).length:Int))),(158,.d (.int .i64 v158))] [.row (J0.cells o04) 154] (Ret [.row (J0.cells res) 154] (.tup []))
theorem O11:(∀ t depth d b,Y6 t depth d=some b→Cr t depth d b)∧(∀ t depth F b,Aa t depth F=some b→Wz t depth F b)∧(∀ t depth k b,Ba t depth k=some b→Xz t depth k b)∧(∀ t depth l b,Bd t depth l=some b→Yz t depth l b)∧(∀ t depth i f b,O6 t depth i f=some b→Zz t depth i f b)∧(∀ t depth j e b,R7 t depth j e=some b→A10 t depth j e b):=by
 refine Y6.mutual_partial_correctness _ _ _ _ _ _ ?_ ?_ ?_ ?_ ?_ ?_
 ·intro g1 p t depth d b a
  obtain ⟨x1,N,a⟩:=bs' a
  obtain ⟨x2,L,a⟩:=bs' a
  obtain ⟨x3,H,a⟩:=bs' a
  obtain ⟨x4,J,a⟩:=bs' a
  obtain ⟨x5,D,a⟩:=bs' a
  obtain ⟨x6,M,a⟩:=bs' a
  refine L0.intro hC Tryz.func168 R R R (s' R R (E0.n hC R (n' (p' 7 R (E0.s hC R (n' (p' 2 R (gq [0] (Zi N) R (n' (sg' 9 R (G' 6 R (a1' R (a1' R ?_)))))))))))))
  refine pa' R (an' (gq [0] (J1 L) R (n' (S' (AEx.draw hC 16 R R R (E' R (n' (sg' 12 R (G' 4 R (a1' R (a1' R (a1' R (a0' R ?_)))))))))))))
  refine a1' R (a1' R (pA' R (po' R (an' (gq [0] (J1 H) R (n' (sg' 7 R (G' 4 R (a1' R (a1' R (po' R (an' (gq [0] (J1 J) R ?_)))))))))))))
  refine n' (sg' 7 R (G' 4 R (a1' R (a1' R (po' R (an' (gq [0] (J1 D) R (n' (sg' 8 R (G' 4 R (a1' R (AG.qe hC R (fun hg=>⟨⟨hg,trivial⟩,trivial⟩) (estr.lenA _) (a1' R ?_)))))))))))))
  refine po' R (an' (gq [0] (J1 M) R (n' (S' (bk' (t' R (ci' R a (fun a=>?_) (fun a=>?_))))))))
  ·obtain ⟨x7,E,a⟩:=bs' a
   obtain ⟨x8,K,a⟩:=bs' a
   obtain ⟨x9,I,a⟩:=bs' a
   exact p' 3 R (qe' R trivial (F0.lenA _) (q' R (gq [0] (J1 E) R (n' (P' 3 R (cq (G5 K) R (gq [0] (S3 I) R (n' (eq' (p _ _ _ _ a) R)))))))))
  refine t' R (ci' R a (fun a=>?_) (fun a=>?_))
  ·obtain ⟨a0,w,a⟩:=bs' a
   obtain ⟨a2,C,a⟩:=bs' a
   refine sg' 14 R (G' 3 R (AG.qe hC R (fun hg=>⟨trivial,trivial⟩) (F0.lenA _) (G' 3 R (a1' R (AG.qe hC R (fun hg=>⟨⟨hg,trivial⟩,trivial⟩) (F0.lenA _) (a0' R (a1' R (AG.qe hC R (fun hg=>⟨⟨hg,trivial⟩,trivial⟩) (estr.lenA _) (a2' R (pa' R (an' (gq [0] (J1 w) R (n' ?_)))))))))))))
   exact P' 3 R (qe' R trivial (F0.lenA _) (q' R (gq [0] (S3 C) R (n' (eq' (p _ _ _ _ a) R)))))
  obtain ⟨P,r,a⟩:=bs' a
  exact P' 3 R (qe' R trivial (F0.lenA _) (q' R (gq [0] (J1 r) R (n' (eq' (p _ _ _ _ a) R)))))
 ·intro g2 v t depth F b a
  refine S' (t' R (ci' R a (fun a=>?_) (fun a=>?_)))
  ·obtain ⟨Y,B,a⟩:=bs' a
   obtain ⟨a1,z,a⟩:=bs' a
   obtain ⟨O,y,a⟩:=bs' a
   exact AEx.regionG 11 R (G' 3 R (AG.c R R (fun _=>trivial) (fun _=>G5 B) (G' 2 R (a1' R (a0' R (a1' R (AG.c R R (fun hg=>⟨hg,hg,trivial⟩) (fun X=>G5 (G1 X z)) (pa' R (an' (gq [0] (S3 y) R (n' (eq' (v _ _ _ _ a) R))))))))))))
  exact sk' (eq' (v _ _ _ _ a) R)
 ·intro g3 x t depth k b a
  refine S' (t' R (ci' R a (fun a=>?_) (fun a=>?_)))
  ·obtain ⟨S,A,a⟩:=bs' a
   exact P' 3 R (gq [0] (Bc A) R (n' (eq' (x _ _ _ _ a) R)))
  exact sk' (eq' (x _ _ _ _ a) R)
 ·intro V o t depth l b a
  exact S' (p' 2 R (qe' R trivial (estr.lenA _) (e' R (bk' (fq (o _ _ _ _ _ a) R)))))
 ·intro V T o m t depth i f b a
  refine Y0.unroll (t' R (S' (ci' R a (fun a=>?_) (fun a=>?_))))
  ·obtain ⟨W,h,a⟩:=bs' a
   obtain ⟨Q,u,a⟩:=bs' a
   exact sk' (S' (bk' (s' R R (i' R (D1 h) (estr.idx h) R (e' R (P' 2 R (gq [0] (Bc u) R (n' (T' R (lq (o _ _ _ _ _ a) R))))))))))
  exact ex' (p' 2 R (qe' R trivial (F0.lenA _) (e' R (bk' (fq (m _ _ _ _ _ a) R)))))
 ·intro g0 T G m t depth j e b a
  refine Y0.unroll (t' R (S' (ci' R a (fun a=>?_) (fun a=>?_))))
  ·obtain ⟨Z,g,a⟩:=bs' a
   obtain ⟨U,q,a⟩:=bs' a
   exact sk' (S' (bk' (s' R R (i' R (D1 g) (F0.idx g) R (q' R (E0.nf hC R (E0.s hC R (n' (P' 4 R (gq [0] (G _ _ _ _ q) R (n' (T' R (lq (m _ _ _ _ _ a) R)))))))))))))
  cases a
  exact ex' (rn' R R R)
theorem K13 {t depth syntaxReport res}(a:Y6 t depth syntaxReport=some res):Cr t depth syntaxReport res:=(O11).1 _ _ _ _ a
mutual
def S7 (a:A0)(b:A0):Option Bool:=
 (if (bif (bif (a.Op == b.Op) then (a.NV == b.NV) else false) then (a.Name == b.Name) else false)=true then P3 a.Kids b.Kids else some default)>>=fun x1=>
 some (bif (bif (bif (a.Op == b.Op) then (a.NV == b.NV) else false) then (a.Name == b.Name) else false) then x1 else false)
 partial_fixpoint
def P3 (s1:List A0)(s2:List A0):Option Bool:=
 if (((s1).length:Int) != ((s2).length:Int))=true then
  some false
 else
  B2 s1 s2 0
 partial_fixpoint
def B2 (s1:List A0)(s2:List A0)(v17:Int):Option Bool:=
 if (decide (v17 < ((s1).length:Int)))=true then
  idx s1 v17>>=fun x1=>
  idx s2 v17>>=fun x2=>
  S7 x1 x2>>=fun x3=>
  if (!x3)=true then
   some false
  else
   B2 s1 s2 (IntKind.i64.wrap (v17+1))
 else
  some true
 partial_fixpoint
end
abbrev Rt (a:A0)(b:A0)(res:Bool):Prop:=L0 C 207 [.agg (A0.cells a),.agg (A0.cells b)] [] (Ret [] (.d (.bool res)))
abbrev Xe (s1:List A0)(s2:List A0)(res:Bool):Prop:=L0 C 225 [.d (.sl (A0.rows s1)),.d (.sl (A0.rows s2)),.clo 207 []] [] (Ret [] (.d (.bool res)))
abbrev Yd (s1:List A0)(s2:List A0)(v17:Int)(res:Bool):Prop:=LM C 32 0 Tryz.f225 [1,1,0,1,4] [(1,.d (.sl (A0.rows s2))),(2,.clo 207 []),(15,.d (.sl (A0.rows s1))),(16,.d (.int .i64 ((s1).length:Int))),(17,.d (.int .i64 v17))] [] (Ret [] (.d (.bool res)))
theorem L13:(∀ a b e,S7 a b=some e→Rt a b e)∧(∀ s1 s2 e,P3 s1 s2=some e→Xe s1 s2 e)∧(∀ s1 s2 h e,B2 s1 s2 h=some e→Yd s1 s2 h e):=by
 refine S7.mutual_partial_correctness _ _ _ ?_ ?_ ?_
 ·intro p l a b e d
  obtain ⟨x1,f,d⟩:=bs' d
  cases d
  refine L0.intro hC Tryz.func207 R R R (s' R R (E0.n hC R (E0.n hC R (e' R (sg' 27 R (G' 7 R (a1' R (a0' R (a1' R (a2' R (pa' R (G' 2 R (a1' R ?_)))))))))))))
  exact a0' R (a1' R (a2' R (pa' R (G' 2 R (a1' R (a0' R (a1' R (AG.c R R (fun hg=>⟨hg,hg,trivial⟩) (fun o=>l _ _ _ (G1 o f)) (pa' R (a0' R (an' (n' (re' (rq R))))))))))))))
 ·intro m g s1 s2 e d
  refine L0.intro hC Tryz.func225 R R R (t' R (S' (p' 1 R (qe' R trivial (A0.lenA _) (q' R (qe' R trivial (A0.lenA _) (e' R (ci' R d (fun d=>?_) (fun d=>?_)))))))))
  ·cases d
   exact t' R (re' (rq R))
  exact sk' (S' (p' 1 R (qe' R trivial (A0.lenA _) (e' R (bk' (fq (g _ _ _ _ d) R))))))
 ·intro r m j g s1 s2 h e d
  refine Y0.unroll (t' R (S' (ci' R d (fun d=>?_) (fun d=>?_))))
  ·obtain ⟨x1,f,d⟩:=bs' d
   obtain ⟨x2,i,d⟩:=bs' d
   obtain ⟨q,k,d⟩:=bs' d
   refine sk' (S' (bk' (p' 1 R (i' R (D1 f) (A0.idx f) R (q' R (E0.nf hC R (q' R (E0.s hC R (n' (p' 2 R (i' R (D1 i) (A0.idx i) R (q' R (E0.nf hC R ?_)))))))))))))
   refine E0.s hC R (n' (p' 3 R (cq (j _ _ _ k) R (e' R (ci' R d (fun d=>?_) (fun d=>?_))))))
   ·cases d
    exact t' R (re' (rq R))
   exact sk' (T' R (lq (g _ _ _ _ d) R))
  cases d
  exact ex' (t' R (re' (rq R)))
theorem Y15 {a b res}(c:S7 a b=some res):Rt a b res:=(L13).1 _ _ _ c
def Kf (op:Int)(v9:Bool):Option Int:=
 if v9=true then
  some 1
 else
  if (op == 5)=true then
   some 2
  else
   if (op == 23)=true then
    some 3
   else
    if (bif (decide (op≥8)) then (decide (op≤22)) else false)=true then
     some 2
    else
     some (-1)
theorem Im {op v9 res}(a:Kf op v9=some res):JM C 23 0 Tryz.f208 [1,0,1,4,1,3,1] [(0,.d (.int .i64 op)),(3,.d (.int .i64 op)),(9,.d (.bool v9))] [] (Ret [] (.d (.int .i64 res))):=by
 unfold Kf at a
 refine ci' R a (fun a=>?_) (fun a=>?_)
 ·cases a
  exact t' R (re' (rq R))
 refine t' R (ci' R a (fun a=>?_) (fun a=>?_))
 ·cases a
  exact t' R (re' (rq R))
 refine t' R (ci' R a (fun a=>?_) (fun a=>?_))
 ·cases a
  exact t' R (re' (rq R))
 refine sk' (S' (sg' 6 R (G' 4 R (a1' R (pa' R (an' (n' (ci' R a (fun a=>?_) (fun a=>?_)))))))))
 ·cases a
  exact t' R (re' (rq R))
 cases a
 exact sk' (t' R (re' (rq R)))
def Cd (op:Int)(v4:Bool):Option Int:=
 if v4=true then
  some 0
 else
  if (op == 4)=true then
   Kf op (op == 4)
  else
   if (op == 6)=true then
    Kf op (op == 6)
   else
    Kf op (op == 7)
theorem Oh {op v4 res}(a:Cd op v4=some res):JM C 23 0 Tryz.f208 [1,0,1,4,1] [(0,.d (.int .i64 op)),(3,.d (.int .i64 op)),(4,.d (.bool v4))] [] (Ret [] (.d (.int .i64 res))):=by
 unfold Cd at a
 refine ci' R a (fun a=>?_) (fun a=>?_)
 ·cases a
  exact t' R (re' (rq R))
 refine S' (t' R (ci' R a (fun a=>?_) (fun a=>?_)))
 ·exact sk' (eq' (Im a) R)
 refine t' R (ci' R a (fun a=>?_) (fun a=>?_))
 ·exact sk' (eq' (Im a) R)
 exact T' R (eq' (Im a) R)
def Jm (op:Int):Option Int:=
 if (op == 0)=true then
  Cd op (op == 0)
 else
  if (op == 1)=true then
   Cd op (op == 1)
  else
   if (op == 2)=true then
    Cd op (op == 2)
   else
    Cd op (op == 3)
theorem Q1d {op res}(a:Jm op=some res):L0 C 208 [.d (.int .i64 op)] [] (Ret [] (.d (.int .i64 res))):=by
 unfold Jm at a
 refine L0.intro hC Tryz.func208 R R R (t' R (S' (t' R (bk' (S' (t' R (ci' R a (fun a=>?_) (fun a=>?_))))))))
 ·exact sk' (eq' (Oh a) R)
 refine t' R (ci' R a (fun a=>?_) (fun a=>?_))
 ·exact sk' (eq' (Oh a) R)
 refine t' R (ci' R a (fun a=>?_) (fun a=>?_))
 ·exact sk' (eq' (Oh a) R)
 exact T' R (eq' (Oh a) R)
def Lf (o0:A0):Option Bool:=
 if (bif (o0.Op == 4) then true else (o0.Op == 5))=true then
  if (((o0.Kids).length:Int) == 0)=true then
   some false
  else
   idx o0.Kids 0>>=fun x1=>
   Lf x1
 else
  some (o0.Op == 3)
 partial_fixpoint
abbrev Vu (o0:A0)(res:Bool):Prop:=LM C 22 0 Tryz.f175 [1,0,4] [(1,.ref 0 0)] [.row (A0.cells o0) 80] (Ret [] (.d (.bool res)))
theorem Z15:(∀ e b,Lf e=some b→Vu e b):=by
 refine Lf.partial_correctness _ ?_
 ·intro f d e b a
  refine Y0.unroll (S' (sg' 8 R (G' 5 R (a1' R (a1' R (po' R (an' (n' (ci' R a (fun a=>?_) (fun a=>?_))))))))))
  ·refine sk' (bk' (S' (p' 2 R (qe' R trivial (A0.lenA _) (e' R (ci' R a (fun a=>?_) (fun a=>?_)))))))
   ·cases a
    exact t' R (re' (rq R))
   obtain ⟨x1,c,a⟩:=bs' a
   exact sk' (P' 2 R (i' R (D1 c) (A0.idx c) R (q' R (E0.s hC R (n' (lq (d _ _ a) R))))))
  cases a
  exact ex' (t' R (re' (rq R)))
theorem U17 {o0 res}(a:Lf o0=some res):Vu o0 res:=(Z15) _ _ a
def Aj (e:A0):Option Bool:=
 Lf e
theorem Yy {e res}(a:Aj e=some res):L0 C 175 [.agg (A0.cells e)] [] (Ret [] (.d (.bool res))):=by
 unfold Aj at a
 exact L0.intro hC Tryz.func175 R R R (s' R R (E0.n hC R (e' R (S' (bk' (fq (U17 a) R))))))
mutual
def R4 (e:A0)(depth:Int)(syntaxReport:J0):Option J0:=
 K9 depth (J0.mk (IntKind.i64.wrap (syntaxReport.nodes+1)) syntaxReport.depth syntaxReport.badForm syntaxReport.badName syntaxReport.badNumber)>>=fun x1=>
 Jm e.Op>>=fun x2=>
 F1 (x2 == ((e.Kids).length:Int)) x1>>=fun x3=>
 F1 (bif (e.NV == 0) then true else (e.Op == 0)) x3>>=fun x4=>
 F1 (bif (e.Name == []) then true else (bif (e.Op == 3) then true else (e.Op == 4))) x4>>=fun x5=>
 if (bif (e.Op == 4) then true else (e.Op == 5))=true then
  Aj e>>=fun x6=>
  F1 x6 x5>>=fun x7=>
  Cc e depth x7
 else
  Cc e depth x5
 partial_fixpoint
def Cc (e:A0)(depth:Int)(o0:J0):Option J0:=
 if (bif (e.Op == 3) then true else (e.Op == 4))=true then
  V5 e.Name o0>>=fun x8=>
  Mf e depth x8
 else
  Mf e depth o0
 partial_fixpoint
def Mf (e:A0)(depth:Int)(o01:J0):Option J0:=
 if (e.Op == 0)=true then
  J4 e.NV 0 1048576>>=fun x9=>
  S2 x9 o01>>=fun x10=>
  Nf e depth x10
 else
  Nf e depth o01
 partial_fixpoint
def Nf (e:A0)(depth:Int)(o02:J0):Option J0:=
 I6 e depth o02 0
 partial_fixpoint
def I6 (e:A0)(depth:Int)(o03:J0)(v82:Int):Option J0:=
 if (decide (v82 < ((e.Kids).length:Int)))=true then
  idx e.Kids v82>>=fun x11=>
  R4 x11 (IntKind.i64.wrap (depth+1)) o03>>=fun x12=>
  I6 e depth x12 (IntKind.i64.wrap (v82+1))
 else
  some o03
 partial_fixpoint
end
abbrev Cq (e:A0)(depth:Int)(syntaxReport:J0)(res:J0):Prop:=L0 C 176 [.ref 0 0,.agg (A0.cells e),.d (.int .i64 depth)] [.row (J0.cells syntaxReport) 154] (Ret [.row (J0.cells res) 154] (.tup []))
abbrev Hy (e:A0)(depth:Int)(o0:J0)(res:J0):Prop:=JM C 92 1 Tryz.f176 [1,1,1,1,1,1,1,1] [(0,.ref 0 0),(2,.d (.int .i64 depth)),(4,.ref 1 0),(6,.d (.bool (bif (e.Op == 3) then true else (e.Op == 4))))] [.row (J0.cells o0) 154,.row (A0.cells e) 80] (Ret [.row (J0.cells res) 154] (.tup []))
abbrev Iy (e:A0)(depth:Int)(o01:J0)(res:J0):Prop:=JM C 92 1 Tryz.f176 [1,1,1,1,1,1,1,1,1] [(0,.ref 0 0),(2,.d (.int .i64 depth)),(4,.ref 1 0)] [.row (J0.cells o01) 154,.row (A0.cells e) 80] (Ret [.row (J0.cells res) 154] (.tup []))
abbrev Jy (e:A0)(depth:Int)(o02:J0)(res:J0):Prop:=JM C 92 1 Tryz.f176 [1,1,1,1,1,1,1,1,1,1] [(0,.ref 0 0),(2,.d (.int .i64 depth)),(4,.ref 1 0)] [.row (J0.cells o02) 154,.row (A0.cells e) 80] (Ret [.row (J0.cells res) 154] (.tup []))
abbrev Ky (e:A0)(depth:Int)(o03:J0)(v82:Int)(res:J0):Prop:=LM C 92 1 Tryz.f176 [1,1,1,1,1,1,1,1,1,1,1,4] [(0,.ref 0 0),(2,.d (.int .i64 depth)),(80,.d (.sl (A0.rows e.Kids))),(81,.d (.int .i64 ((e.Kids).length:Int))),(82,.d (.int .i64 v82))] [.row (J0.cells o03) 154] (Ret [.row (J0.cells res) 154] (.tup []))
theorem B10:(∀ e depth b c,R4 e depth b=some c→Cq e depth b c)∧(∀ e depth t c,Cc e depth t=some c→Hy e depth t c)∧(∀ e depth h c,Mf e depth h=some c→Iy e depth h c)∧(∀ e depth i c,Nf e depth i=some c→Jy e depth i c)∧(∀ e depth g f c,I6 e depth g f=some c→Ky e depth g f c):=by
 refine R4.mutual_partial_correctness _ _ _ _ _ ?_ ?_ ?_ ?_ ?_
 ·intro L p e depth b c a
  obtain ⟨x1,B,a⟩:=bs' a
  obtain ⟨x2,z,a⟩:=bs' a
  obtain ⟨O,v,a⟩:=bs' a
  obtain ⟨G,x,a⟩:=bs' a
  obtain ⟨M,q,a⟩:=bs' a
  refine L0.intro hC Tryz.func176 R R R (s' R R (E0.n hC R (n' (p' 7 R (E0.s hC R (n' (p' 2 R (gq [0] (Zi B) R (n' (S' (AEx.draw hC 8 R R R (O' 3 R (Qc' (Q1d z) R R ?_)))))))))))))
  refine O' 2 R (AQ.qe hC R trivial (A0.lenA _) (E' R (gq [0] (J1 v) R (n' (sg' 9 R (G' 6 R (a1' R (a1' R (po' R (an' (gq [0] (J1 x) R (n' (sg' 9 R ?_)))))))))))))
  refine G' 5 R (a1' R (a1' R (po' R (a0' R (an' (n' (sg' 7 R (G' 6 R (po' R (an' (gq [0] (J1 q) R (n' (S' ?_)))))))))))))
  refine sg' 8 R (G' 5 R (a1' R (a1' R (po' R (an' (n' (ci' R a (fun a=>?_) (fun a=>?_))))))))
  ·obtain ⟨H,A,a⟩:=bs' a
   obtain ⟨J,r,a⟩:=bs' a
   exact P' 2 R (cq (Yy A) R (gq [0] (J1 r) R (n' (eq' (p _ _ _ _ a) R))))
  exact sk' (eq' (p _ _ _ _ a) R)
 ·intro N k e depth t c a
  refine S' (t' R (ci' R a (fun a=>?_) (fun a=>?_)))
  ·obtain ⟨Q,y,a⟩:=bs' a
   exact P' 3 R (gq [0] (Bc y) R (n' (eq' (k _ _ _ _ a) R)))
  exact sk' (eq' (k _ _ _ _ a) R)
 ·intro I l e depth h c a
  refine S' (t' R (ci' R a (fun a=>?_) (fun a=>?_)))
  ·obtain ⟨K,w,a⟩:=bs' a
   obtain ⟨E,o,a⟩:=bs' a
   exact P' 3 R (cq (G5 w) R (gq [0] (S3 o) R (n' (eq' (l _ _ _ _ a) R))))
  exact sk' (eq' (l _ _ _ _ a) R)
 ·intro D j e depth i c a
  exact p' 2 R (qe' R trivial (A0.lenA _) (e' R (bk' (fq (j _ _ _ _ _ a) R))))
 ·intro P D u j e depth g f c a
  refine Y0.unroll (t' R (S' (ci' R a (fun a=>?_) (fun a=>?_))))
  ·obtain ⟨F,d,a⟩:=bs' a
   obtain ⟨C,m,a⟩:=bs' a
   exact sk' (S' (bk' (s' R R (i' R (D1 d) (A0.idx d) R (q' R (E0.nf hC R (E0.s hC R (n' (P' 4 R (gq [0] (u _ _ _ _ m) R (n' (T' R (lq (j _ _ _ _ _ a) R)))))))))))))
  cases a
  exact ex' (rn' R R R)
theorem Ep {e depth syntaxReport res}(a:R4 e depth syntaxReport=some res):Cq e depth syntaxReport res:=(B10).1 _ _ _ _ a
def N4 (e:A0)(Id:Bool)(syntaxReport:J0):Option J0:=
 (if (!Id)=true then S7 e (A0.mk 0 0 [] []) else some default)>>=fun x1=>
 if (bif (!Id) then x1 else false)=true then
  some syntaxReport
 else
  F1 Id syntaxReport>>=fun x2=>
  R4 e 1 x2>>=fun x3=>
  some x3
theorem Eg {e Id syntaxReport res}(a:N4 e Id syntaxReport=some res):L0 C 170 [.ref 0 0,.agg (A0.cells e),.d (.bool Id)] [.row (J0.cells syntaxReport) 154] (Ret [.row (J0.cells res) 154] (.tup [])):=by
 unfold N4 at a
 obtain ⟨x1,f,a⟩:=bs' a
 refine L0.intro hC Tryz.func170 R R R (s' R R (E0.n hC R (n' (S' (sg' 7 R (G' 5 R (AG.c R R (fun hg=>⟨hg,hg,trivial⟩) (fun h=>Y15 (G1 h f)) (pa' R (an' (n' (ci' R a (fun a=>?_) (fun a=>?_))))))))))))
 ·cases a
  exact re' (rq R)
 obtain ⟨x2,b,a⟩:=bs' a
 obtain ⟨i,g,a⟩:=bs' a
 cases a
 exact sk' (p' 2 R (gq [0] (J1 b) R (n' (P' 2 R (gq [0] (Ep g) R (n' (rn' R R R)))))))
def Ug (v:Int):Option (Z2×Bool):=
 if (v == 0)=true then
  some ((Z2.mk true true false false false false false false false),true)
 else
  if (v == 1)=true then
   some ((Z2.mk true false true true false false false false false),true)
  else
   if (v == 2)=true then
    some ((Z2.mk true false true false false false false false false),true)
   else
    if (v == 3)=true then
     some ((Z2.mk false true false false false false false false false),true)
    else
     if (v == 4)=true then
      some ((Z2.mk false false false false true false false false false),true)
     else
      if (v == 5)=true then
       some ((Z2.mk false true false false false false false true true),true)
      else
       if (v == 6)=true then
        some ((Z2.mk false true false false true false false true false),true)
       else
        if (v == 7)=true then
         some ((Z2.mk false false true false false true false true false),true)
        else
         if (v == 8)=true then
          some ((Z2.mk false false false false false false true false false),true)
         else
          some ((Z2.mk false false false false false false false false false),false)
theorem A16 {v res}(a:Ug v=some res):L0 C 174 [.d (.int .i64 v)] [] (Ret [] (.tup [.agg (Z2.cells res.1),.d (.bool res.2)])):=by
 unfold Ug at a
 refine L0.intro hC Tryz.func174 R R R (s' R R (E0.n hC R (e' R (S' (t' R (bk' (t' R (ci' R a (fun a=>?_) (fun a=>?_)))))))))
 ·cases a
  exact p' 1 R (E0.s hC R (e' R (re' (rq R))))
 refine t' R (ci' R a (fun a=>?_) (fun a=>?_))
 ·cases a
  exact p' 1 R (E0.s hC R (e' R (re' (rq R))))
 refine t' R (ci' R a (fun a=>?_) (fun a=>?_))
 ·cases a
  exact p' 1 R (E0.s hC R (e' R (re' (rq R))))
 refine t' R (ci' R a (fun a=>?_) (fun a=>?_))
 ·cases a
  exact p' 1 R (E0.s hC R (e' R (re' (rq R))))
 refine t' R (ci' R a (fun a=>?_) (fun a=>?_))
 ·cases a
  exact p' 1 R (E0.s hC R (e' R (re' (rq R))))
 refine t' R (ci' R a (fun a=>?_) (fun a=>?_))
 ·cases a
  exact p' 1 R (E0.s hC R (e' R (re' (rq R))))
 refine t' R (ci' R a (fun a=>?_) (fun a=>?_))
 ·cases a
  exact p' 1 R (E0.s hC R (e' R (re' (rq R))))
 refine t' R (ci' R a (fun a=>?_) (fun a=>?_))
 ·cases a
  exact p' 1 R (E0.s hC R (e' R (re' (rq R))))
 refine t' R (ci' R a (fun a=>?_) (fun a=>?_))
 ·cases a
  exact p' 1 R (E0.s hC R (e' R (re' (rq R))))
 cases a
 exact sk' (p' 1 R (E0.s hC R (e' R (re' (rq R)))))
def S4 (s:C0)(o0:J0)(last:Int)(v58:Int):Option J0:=
 if (decide (v58 < ((s.Numbers).length:Int)))=true then
  idx s.Numbers v58>>=fun x10=>
  J4 x10 0 1048576>>=fun x11=>
  S2 (bif x11 then (decide (x10 > last)) else false) o0>>=fun x12=>
  S4 s x12 x10 (IntKind.i64.wrap (v58+1))
 else
  some o0
 partial_fixpoint
abbrev Qk (s:C0)(o0:J0)(last:Int)(v58:Int)(res:J0):Prop:=LM C 73 1 Tryz.f177 [1,1,4,1,3,1,3,1,3,1,2,1,1,1,4] [(0,.ref 0 0),(5,.d (.int .i64 last)),(56,.d (.sl (ei64.rows s.Numbers))),(57,.d (.int .i64 ((s.Numbers).length:Int))),(58,.d (.int .i64 v58))] [.row (J0.cells o0) 154] (Ret [.row (J0.cells res) 154] (.tup []))
theorem Ds (s:C0):(∀ j a e f,S4 s j a e=some f→Qk s j a e f):=by
 refine S4.partial_correctness s _ ?_
 ·intro n i j a e f b
  refine Y0.unroll (t' R (S' (ci' R b (fun b=>?_) (fun b=>?_))))
  ·obtain ⟨m,d,b⟩:=bs' b
   obtain ⟨k,h,b⟩:=bs' b
   obtain ⟨l,g,b⟩:=bs' b
   refine sk' (S' (bk' (s' R R (i' R (D1 d) (ei64.idx d) R (e' R (sg' 8 R (G' 2 R (AG.c R R (fun _=>trivial) (fun _=>G5 h) (G' 3 R (a2' R (pa' R (an' (gq [0] (S3 g) R ?_)))))))))))))
   exact n' (T' R (T' R (lq (i _ _ _ _ b) R)))
  cases b
  exact ex' (rn' R R R)
theorem Tt {s o0 last v58 res}(a:S4 s o0 last v58=some res):Qk s o0 last v58 res:=(Ds s) _ _ _ _ a
def Z8 (s:C0)(syntaxReport:J0):Option J0:=
 if (s.Verb == 4)=true then
  J4 s.NV 0 1048576>>=fun x1=>
  S2 x1 syntaxReport>>=fun x2=>
  some x2
 else
  if (s.Verb == 6)=true then
   J4 s.NV 0 4096>>=fun x3=>
   S2 x3 syntaxReport>>=fun x4=>
   some x4
  else
   if (s.Verb == 7)=true then
    J4 s.Low (-1048576) 1048576>>=fun x5=>
    (if x5=true then J4 s.High s.Low 1048576 else some default)>>=fun x6=>
    S2 (bif (bif x5 then x6 else false) then (decide ((IntKind.i64.wrap (s.High - s.Low)) < 4096)) else false) syntaxReport>>=fun x7=>
    some x7
   else
    if (s.Verb == 8)=true then
     J4 ((s.Numbers).length:Int) 1 32>>=fun x8=>
     S2 x8 syntaxReport>>=fun x9=>
     S4 s x9 (-1) 0
    else
     some syntaxReport
theorem Bx {s syntaxReport res}(a:Z8 s syntaxReport=some res):L0 C 177 [.ref 0 0,.agg (C0.cells s)] [.row (J0.cells syntaxReport) 154] (Ret [.row (J0.cells res) 154] (.tup [])):=by
 unfold Z8 at a
 refine L0.intro hC Tryz.func177 R R R (s' R R (E0.n hC R (n' (t' R (bk' (t' R (ci' R a (fun a=>?_) (fun a=>?_))))))))
 ·obtain ⟨x1,j,a⟩:=bs' a
  obtain ⟨x2,h,a⟩:=bs' a
  cases a
  exact P' 3 R (cq (G5 j) R (gq [0] (S3 h) R (n' (rn' R R R))))
 refine t' R (ci' R a (fun a=>?_) (fun a=>?_))
 ·obtain ⟨r,d,a⟩:=bs' a
  obtain ⟨m,f,a⟩:=bs' a
  cases a
  exact P' 3 R (cq (G5 d) R (gq [0] (S3 f) R (n' (rn' R R R))))
 refine t' R (ci' R a (fun a=>?_) (fun a=>?_))
 ·obtain ⟨q,k,a⟩:=bs' a
  obtain ⟨u,i,a⟩:=bs' a
  obtain ⟨o,b,a⟩:=bs' a
  cases a
  refine sg' 11 R (G' 2 R (AG.c R R (fun _=>trivial) (fun _=>G5 k) (G' 2 R (a1' R (a0' R (a1' R (AG.c R R (fun hg=>⟨hg,hg,trivial⟩) (fun l=>G5 (G1 l i)) (pa' R (a0' R (an' (n' (AEx.regionG 10 R (G' 4 R ?_)))))))))))))
  exact a1' R (a0' R (a1' R (a2' R (a1' R (pa' R (an' (gq [0] (S3 b) R (n' (rn' R R R)))))))))
 refine t' R (ci' R a (fun a=>?_) (fun a=>?_))
 ·obtain ⟨t,g,a⟩:=bs' a
  obtain ⟨p,e,a⟩:=bs' a
  exact p' 3 R (qe' R trivial (ei64.lenA _) (cq (G5 g) R (gq [0] (S3 e) R (n' (t' R (p' 2 R (qe' R trivial (ei64.lenA _) (e' R (bk' (fq (Tt a) R))))))))))
 cases a
 exact sk' (rn' R R R)
mutual
def C4 (l:List C0)(nesting:Int)(syntaxReport:J0):Option J0:=
 T6 l nesting syntaxReport 0
 partial_fixpoint
def T6 (l:List C0)(nesting:Int)(o03:J0)(v14:Int):Option J0:=
 if (decide (v14 < ((l).length:Int)))=true then
  idx l v14>>=fun x1=>
  K9 nesting (J0.mk (IntKind.i64.wrap (o03.nodes+1)) o03.depth o03.badForm o03.badName o03.badNumber)>>=fun x2=>
  Ug x1.Verb>>=fun x3=>
  F1 x3.2 x2>>=fun x4=>
  N4 x1.Place x3.1.place x4>>=fun x5=>
  if x3.1.place=true then
   Aj x1.Place>>=fun x6=>
   F1 x6 x5>>=fun x7=>
   E8 l nesting x7 x1 x3 v14
  else
   E8 l nesting x5 x1 x3 v14
 else
  some o03
 partial_fixpoint
def E8 (l:List C0)(nesting:Int)(o0:J0)(x1:C0)(x3:Z2×Bool)(v141:Int):Option J0:=
 N4 x1.Value x3.1.value o0>>=fun x8=>
 F1 (bif x3.1.name then true else (x1.Name == [])) x8>>=fun x9=>
 if x3.1.name=true then
  V5 x1.Name x9>>=fun x10=>
  F8 l nesting x10 x1 x3 v141
 else
  F8 l nesting x9 x1 x3 v141
 partial_fixpoint
def F8 (l:List C0)(nesting:Int)(o01:J0)(x1:C0)(x3:Z2×Bool)(v142:Int):Option J0:=
 F1 (bif x3.1.args then true else (((x1.Args).length:Int) == 0)) o01>>=fun x11=>
 Gb l nesting x11 x1 x3 v142 0
 partial_fixpoint
def Gb (l:List C0)(nesting:Int)(o02:J0)(x1:C0)(x3:Z2×Bool)(v143:Int)(v84:Int):Option J0:=
 if (decide (v84 < ((x1.Args).length:Int)))=true then
  idx x1.Args v84>>=fun x12=>
  R4 x12 1 o02>>=fun x13=>
  Gb l nesting x13 x1 x3 v143 (IntKind.i64.wrap (v84+1))
 else
  F1 (bif x3.1.n then true else (x1.NV == 0)) o02>>=fun x14=>
  F1 (bif x3.1.bounds then true else (bif (x1.Low == 0) then (x1.High == 0) else false)) x14>>=fun x15=>
  F1 (bif x3.1.numbers then true else (((x1.Numbers).length:Int) == 0)) x15>>=fun x16=>
  F1 (bif x3.1.thenV then true else (((x1.Then).length:Int) == 0)) x16>>=fun x17=>
  F1 (bif x3.1.other then true else (((x1.Else).length:Int) == 0)) x17>>=fun x18=>
  Z8 x1 x18>>=fun x19=>
  C4 x1.Then (IntKind.i64.wrap (nesting+1)) x19>>=fun x20=>
  C4 x1.Else (IntKind.i64.wrap (nesting+1)) x20>>=fun x21=>
  T6 l nesting x21 (IntKind.i64.wrap (v143+1))
 partial_fixpoint
end
abbrev Fp (l:List C0)(nesting:Int)(syntaxReport:J0)(res:J0):Prop:=L0 C 106 [.ref 0 0,.d (.sl (C0.rows l)),.d (.int .i64 nesting)] [.row (J0.cells syntaxReport) 154] (Ret [.row (J0.cells res) 154] (.tup []))
abbrev Dx (l:List C0)(nesting:Int)(o03:J0)(v14:Int)(res:J0):Prop:=LM C 161 1 Tryz.f106 [1,4] [(0,.ref 0 0),(2,.d (.int .i64 nesting)),(12,.d (.sl (C0.rows l))),(13,.d (.int .i64 ((l).length:Int))),(14,.d (.int .i64 v14))] [.row (J0.cells o03) 154] (Ret [.row (J0.cells res) 154] (.tup []))
abbrev Gx (l:List C0)(nesting:Int)(o0:J0)(x1:C0)(x3:Z2×Bool)(v141:Int)(res:J0):Prop:=JM C 161 1 Tryz.f106 [1,4,5,1,1,0,4,1,1,1,1,1,1,1] [(0,.ref 0 0),(2,.d (.int .i64 nesting)),(7,.ref 1 0),(8,.ref 2 0),(12,.d (.sl (C0.rows l))),(13,.d (.int .i64 ((l).length:Int))),(14,.d (.int .i64 v141))] [.row (J0.cells o0) 154,.row (C0.cells x1) 88,.row (Z2.cells x3.1) 200] (Ret [.row (J0.cells res) 154] (.tup []))
abbrev Hx (l:List C0)(nesting:Int)(o01:J0)(x1:C0)(x3:Z2×Bool)(v142:Int)(res:J0):Prop:=JM C 161 1 Tryz.f106 [1,4,5,1,1,0,4,1,1,1,1,1,1,1,1,1,1] [(0,.ref 0 0),(2,.d (.int .i64 nesting)),(7,.ref 1 0),(8,.ref 2 0),(12,.d (.sl (C0.rows l))),(13,.d (.int .i64 ((l).length:Int))),(14,.d (.int .i64 v142))] [.row (J0.cells o01) 154,.row (C0.cells x1) 88,.row (Z2.cells x3.1) 200] (Ret [.row (J0.cells res) 154] (.tup []))
abbrev Ix (l:List C0)(nesting:Int)(o02:J0)(x1:C0)(x3:Z2×Bool)(v143:Int)(v84:Int)(res:J0):Prop:=LM C 161 1 Tryz.f106 [1,4,5,1,1,0,4,1,1,1,1,1,1,1,1,1,1,1,0,1,4] [(0,.ref 0 0),(2,.d (.int .i64 nesting)),(7,.ref 1 0),(8,.ref 2 0),(12,.d (.sl (C0.rows l))),(13,.d (.int .i64 ((l).length:Int))),(14,.d (.int .i64 v143)),(82,.d (.sl (A0.rows x1.Args))),(83,.d (.int .i64 ((x1.Args).length:Int))),(84,.d (.int .i64 v84))] [.row (J0.cells o02) 154,.row (C0.cells x1) 88,.row (Z2.cells x3.1) 200] (Ret [.row (J0.cells res) 154] (.tup []))
theorem Ly:(∀ l a c d,C4 l a c=some d→Fp l a c d)∧(∀ l a j p d,T6 l a j p=some d→Dx l a j p d)∧(∀ l a K x1 e h d,E8 l a K x1 e h=some d→Gx l a K x1 e h d)∧(∀ l a m x1 e g d,F8 l a m x1 e g=some d→Hx l a m x1 e g d)∧(∀ l a o x1 e f k d,Gb l a o x1 e f k=some d→Ix l a o x1 e f k d):=by
 refine C4.mutual_partial_correctness _ _ _ _ _ ?_ ?_ ?_ ?_ ?_
 ·intro V r l a c d b
  exact L0.intro hC Tryz.func106 R R R (p' 1 R (qe' R trivial (C0.lenA _) (e' R (bk' (fq (r _ _ _ _ _ b) R)))))
 ·intro g2 y l a j p d b
  refine Y0.unroll (t' R (S' (ci' R b (fun b=>?_) (fun b=>?_))))
  ·obtain ⟨x1,F,b⟩:=bs' b
   obtain ⟨x2,P,b⟩:=bs' b
   obtain ⟨e,L,b⟩:=bs' b
   obtain ⟨x4,N,b⟩:=bs' b
   obtain ⟨x5,I,b⟩:=bs' b
   refine sk' (S' (bk' (s' R R (i' R (D1 F) (C0.idx F) R (q' R (E0.nf hC R (E0.s hC R (n' (p' 7 R (E0.s hC R (n' (p' 2 R (gq [0] (Zi P) R ?_)))))))))))))
   refine n' (p' 2 R (cq (A16 L) R (o' 3 R (E0.n hC R (E0.s hC R (e' R (p' 2 R (gq [0] (J1 N) R (n' (p' 5 R (gq [0] (Eg I) R (n' (S' ?_)))))))))))))
   refine t' R (ci' R b (fun b=>?_) (fun b=>?_))
   ·obtain ⟨x6,Q,b⟩:=bs' b
    obtain ⟨x7,J,b⟩:=bs' b
    exact P' 3 R (cq (Yy Q) R (gq [0] (J1 J) R (n' (eq' (y _ _ _ _ _ _ _ b) R))))
   exact sk' (eq' (y _ _ _ _ _ _ _ b) R)
  cases b
  exact ex' (rn' R R R)
 ·intro g3 B l a K x1 e h d b
  obtain ⟨x8,O,b⟩:=bs' b
  obtain ⟨x9,M,b⟩:=bs' b
  refine p' 5 R (gq [0] (Eg O) R (n' (sg' 8 R (G' 5 R (a1' R (a1' R (po' R (an' (gq [0] (J1 M) R (n' (S' (t' R (ci' R b (fun b=>?_) (fun b=>?_))))))))))))))
  ·obtain ⟨a0,E,b⟩:=bs' b
   exact P' 3 R (gq [0] (Bc E) R (n' (eq' (B _ _ _ _ _ _ _ b) R)))
  exact sk' (eq' (B _ _ _ _ _ _ _ b) R)
 ·intro Y q l a m x1 e g d b
  obtain ⟨a4,C,b⟩:=bs' b
  exact sg' 9 R (G' 5 R (a1' R (AG.qe hC R (fun hg=>⟨⟨hg,trivial⟩,trivial⟩) (A0.lenA _) (a1' R (po' R (an' (gq [0] (J1 C) R (n' (S' (p' 2 R (qe' R trivial (A0.lenA _) (e' R (bk' (fq (q _ _ _ _ _ _ _ _ b) R))))))))))))))
 ·intro g0 V Y z r q l a o x1 e f k d b
  refine Y0.unroll (t' R (S' (ci' R b (fun b=>?_) (fun b=>?_))))
  ·obtain ⟨S,i,b⟩:=bs' b
   obtain ⟨W,D,b⟩:=bs' b
   exact sk' (S' (bk' (s' R R (i' R (D1 i) (A0.idx i) R (q' R (E0.nf hC R (E0.s hC R (n' (P' 2 R (gq [0] (Ep D) R (n' (T' R (lq (q _ _ _ _ _ _ _ _ b) R)))))))))))))
  obtain ⟨a3,A,b⟩:=bs' b
  obtain ⟨a5,G,b⟩:=bs' b
  obtain ⟨T,w,b⟩:=bs' b
  obtain ⟨Z,H,b⟩:=bs' b
  obtain ⟨U,x,b⟩:=bs' b
  obtain ⟨a2,v,b⟩:=bs' b
  obtain ⟨X,u,b⟩:=bs' b
  obtain ⟨a1,t,b⟩:=bs' b
  refine ex' (sg' 8 R (G' 5 R (a1' R (a1' R (po' R (an' (gq [0] (J1 A) R (n' (sg' 13 R (G' 5 R (a1' R (a1' R (a1' R ?_)))))))))))))
  refine a0' R (a1' R (a1' R (pA' R (po' R (an' (gq [0] (J1 G) R (n' (sg' 9 R (G' 5 R (a1' R (AG.qe hC R (fun hg=>⟨⟨hg,trivial⟩,trivial⟩) (ei64.lenA _) (a1' R (po' R ?_)))))))))))))
  refine an' (gq [0] (J1 w) R (n' (sg' 9 R (G' 5 R (a1' R (AG.qe hC R (fun hg=>⟨⟨hg,trivial⟩,trivial⟩) (C0.lenA _) (a1' R (po' R (an' (gq [0] (J1 H) R (n' (sg' 9 R (G' 5 R ?_)))))))))))))
  refine a1' R (AG.qe hC R (fun hg=>⟨⟨hg,trivial⟩,trivial⟩) (C0.lenA _) (a1' R (po' R (an' (gq [0] (J1 x) R (n' (p' 2 R (gq [0] (Bx v) R (n' (p' 5 R (gq [0] (z _ _ _ _ u) R (n' (P' 5 R ?_)))))))))))))
  exact gq [0] (z _ _ _ _ t) R (n' (T' R (lq (r _ _ _ _ _ b) R)))
theorem Vn {l nesting syntaxReport res}(a:C4 l nesting syntaxReport=some res):Fp l nesting syntaxReport res:=(Ly).1 _ _ _ _ a
mutual
def X6 (l:List B0)(syntaxReport:J0):Option J0:=
 G8 l syntaxReport 0
 partial_fixpoint
def G8 (l:List B0)(o03:J0)(v15:Int):Option J0:=
 if (decide (v15 < ((l).length:Int)))=true then
  idx l v15>>=fun x1=>
  Pl x1.Kind>>=fun x2=>
  F1 x2.1 (J0.mk (IntKind.i64.wrap (o03.nodes+1)) o03.depth o03.badForm o03.badName o03.badNumber)>>=fun x3=>
  (if (!x2.1)=true then J9 x1.TypeV (F0.mk 0 0 0 0 [] [] []) else some default)>>=fun x4=>
  if (bif x2.1 then true else (!x4))=true then
   Y6 x1.TypeV 1 x3>>=fun x5=>
   Hb l x5 x1 x2 v15
  else
   Hb l x3 x1 x2 v15
 else
  some o03
 partial_fixpoint
def Hb (l:List B0)(o0:J0)(x1:B0)(x2:Bool×Bool)(v151:Int):Option J0:=
 V5 x1.Name o0>>=fun x6=>
 N4 x1.Value x2.2 x6>>=fun x7=>
 F1 (bif (x1.Kind == 4) then true else (x1.Init == 0)) x7>>=fun x8=>
 J4 x1.Init (-1048576) 1048576>>=fun x9=>
 (if (x9&&(!(x1.TypeV.Kind != 0)))=true then J4 x1.Init 0 1 else some default)>>=fun x10=>
 S2 (bif x9 then (bif (x1.TypeV.Kind != 0) then true else x10) else false) x8>>=fun x11=>
 F1 (bif (x1.Kind == 6) then true else (bif (bif (((x1.Params).length:Int) == 0) then (((x1.Vars).length:Int) == 0) else false) then (((x1.Body).length:Int) == 0) else false)) x11>>=fun x12=>
 H8 l x12 x1 v151 0
 partial_fixpoint
def H8 (l:List B0)(o01:J0)(x1:B0)(v152:Int)(v109:Int):Option J0:=
 if (decide (v109 < ((x1.Params).length:Int)))=true then
  idx x1.Params v109>>=fun x13=>
  F1 (bif (x13.Kind == 4) then (x13.Init == 0) else false) o01>>=fun x14=>
  H8 l x14 x1 v152 (IntKind.i64.wrap (v109+1))
 else
  Ib l o01 x1 v152 0
 partial_fixpoint
def Ib (l:List B0)(o02:J0)(x1:B0)(v153:Int)(v127:Int):Option J0:=
 if (decide (v127 < ((x1.Vars).length:Int)))=true then
  idx x1.Vars v127>>=fun x15=>
  F1 (x15.Kind == 4) o02>>=fun x16=>
  Ib l x16 x1 v153 (IntKind.i64.wrap (v127+1))
 else
  X6 x1.Params o02>>=fun x17=>
  X6 x1.Vars x17>>=fun x18=>
  C4 x1.Body 1 x18>>=fun x19=>
  G8 l x19 (IntKind.i64.wrap (v153+1))
 partial_fixpoint
end
abbrev Hp (l:List B0)(syntaxReport:J0)(res:J0):Prop:=L0 C 105 [.ref 0 0,.d (.sl (B0.rows l))] [.row (J0.cells syntaxReport) 154] (Ret [.row (J0.cells res) 154] (.tup []))
abbrev Jx (l:List B0)(o03:J0)(v15:Int)(res:J0):Prop:=LM C 150 1 Tryz.f105 [1,4] [(0,.ref 0 0),(13,.d (.sl (B0.rows l))),(14,.d (.int .i64 ((l).length:Int))),(15,.d (.int .i64 v15))] [.row (J0.cells o03) 154] (Ret [.row (J0.cells res) 154] (.tup []))
abbrev Kx (l:List B0)(o0:J0)(x1:B0)(x2:Bool×Bool)(v151:Int)(res:J0):Prop:=JM C 150 1 Tryz.f105 [1,4,5,1,1,0,4,1,1,1,1,1] [(0,.ref 0 0),(5,.ref 1 0),(7,.d (.bool x2.2)),(13,.d (.sl (B0.rows l))),(14,.d (.int .i64 ((l).length:Int))),(15,.d (.int .i64 v151))] [.row (J0.cells o0) 154,.row (B0.cells x1) 82] (Ret [.row (J0.cells res) 154] (.tup []))
abbrev Lx (l:List B0)(o01:J0)(x1:B0)(v152:Int)(v109:Int)(res:J0):Prop:=LM C 150 1 Tryz.f105 [1,4,5,1,1,0,4,1,1,1,1,1,1,1,1,1,1,1,0,1,4] [(0,.ref 0 0),(5,.ref 1 0),(13,.d (.sl (B0.rows l))),(14,.d (.int .i64 ((l).length:Int))),(15,.d (.int .i64 v152)),(107,.d (.sl (B0.rows x1.Params))),(108,.d (.int .i64 ((x1.Params).length:Int))),(109,.d (.int .i64 v109))] [.row (J0.cells o01) 154,.row (B0.cells x1) 82] (Ret [.row (J0.cells res) 154] (.tup []))
abbrev Mx (l:List B0)(o02:J0)(x1:B0)(v153:Int)(v127:Int)(res:J0):Prop:=LM C 150 1 Tryz.f105 [1,4,5,1,1,0,4,1,1,1,1,1,1,1,1,1,1,1,1,0,1,4] [(0,.ref 0 0),(5,.ref 1 0),(13,.d (.sl (B0.rows l))),(14,.d (.int .i64 ((l).length:Int))),(15,.d (.int .i64 v153)),(125,.d (.sl (B0.rows x1.Vars))),(126,.d (.int .i64 ((x1.Vars).length:Int))),(127,.d (.int .i64 v127))] [.row (J0.cells o02) 154,.row (B0.cells x1) 82] (Ret [.row (J0.cells res) 154] (.tup []))
theorem My:(∀ l b d,X6 l b=some d→Hp l b d)∧(∀ l n m d,G8 l n m=some d→Jx l n m d)∧(∀ l H x1 x2 f d,Hb l H x1 x2 f=some d→Kx l H x1 x2 f d)∧(∀ l p x1 h e d,H8 l p x1 h e=some d→Lx l p x1 h e d)∧(∀ l q x1 i g d,Ib l q x1 i g=some d→Mx l q x1 i g d):=by
 refine X6.mutual_partial_correctness _ _ _ _ _ ?_ ?_ ?_ ?_ ?_
 ·intro U t l b d a
  exact L0.intro hC Tryz.func105 R R R (p' 1 R (qe' R trivial (B0.lenA _) (e' R (bk' (fq (t _ _ _ _ a) R)))))
 ·intro g2 x l n m d a
  refine Y0.unroll (t' R (S' (ci' R a (fun a=>?_) (fun a=>?_))))
  ·obtain ⟨x1,D,a⟩:=bs' a
   obtain ⟨x2,N,a⟩:=bs' a
   obtain ⟨x3,I,a⟩:=bs' a
   obtain ⟨x4,K,a⟩:=bs' a
   refine sk' (S' (bk' (s' R R (i' R (D1 D) (B0.idx D) R (q' R (E0.nf hC R (E0.s hC R (n' (p' 7 R (E0.s hC R (n' (p' 2 R (cq (S17 N) R ?_)))))))))))))
   refine e' R (p' 2 R (gq [0] (J1 I) R (n' (S' (sg' 8 R (G' 3 R (a1' R (a0' R (AG.c R R (fun hg=>⟨hg,hg,trivial⟩) (fun L=>W15 (G1 L K)) (a1' R (po' R (an' (n' (ci' R a (fun a=>?_) (fun a=>?_)))))))))))))))
   ·obtain ⟨x5,F,a⟩:=bs' a
    exact P' 3 R (gq [0] (K13 F) R (n' (eq' (x _ _ _ _ _ _ a) R)))
   exact sk' (eq' (x _ _ _ _ _ _ a) R)
  cases a
  exact ex' (rn' R R R)
 ·intro P o l H x1 x2 f d a
  obtain ⟨x6,O,a⟩:=bs' a
  obtain ⟨x7,G,a⟩:=bs' a
  obtain ⟨x8,M,a⟩:=bs' a
  obtain ⟨x9,J,a⟩:=bs' a
  obtain ⟨Y,C,a⟩:=bs' a
  obtain ⟨a1,B,a⟩:=bs' a
  obtain ⟨Q,A,a⟩:=bs' a
  refine p' 3 R (gq [0] (Bc O) R (n' (p' 4 R (gq [0] (Eg G) R (n' (sg' 9 R (G' 6 R (a1' R (a1' R (po' R (an' (gq [0] (J1 M) R (n' ?_)))))))))))))
  refine sg' 15 R (G' 3 R (AG.c R R (fun _=>trivial) (fun _=>G5 J) (G' 2 R (a1' R (a1' R (a1' R (a1' R (a0' R (a1' R (AG.c R R (fun hg=>⟨hg,trivial⟩) (fun L=>G5 (G1 L C)) (pO' R (pa' R (an' ?_)))))))))))))
  refine gq [0] (S3 B) R (n' (t' R (sg' 20 R (G' 4 R (a1' R (AG.qe hC R (fun hg=>⟨⟨hg,trivial⟩,trivial⟩) (B0.lenA _) (a1' R (a1' R (a0' R (a1' R (AG.qe hC R (fun hg=>⟨⟨hg,trivial⟩,trivial⟩) (B0.lenA _) (a1' R (pA' R ?_)))))))))))))
  refine a1' R (a0' R (a1' R (AG.qe hC R (fun hg=>⟨⟨hg,trivial⟩,trivial⟩) (C0.lenA _) (a1' R (pA' R (po' R (an' (gq [0] (J1 A) R (n' (S' (p' 2 R (qe' R trivial (B0.lenA _) (e' R ?_)))))))))))))
  exact bk' (fq (o _ _ _ _ _ _ a) R)
 ·intro P W o r l p x1 h e d a
  refine Y0.unroll (t' R (S' (ci' R a (fun a=>?_) (fun a=>?_))))
  ·obtain ⟨V,j,a⟩:=bs' a
   obtain ⟨a0,z,a⟩:=bs' a
   refine sk' (S' (bk' (s' R R (i' R (D1 j) (B0.idx j) R (q' R (E0.nf hC R (E0.s hC R (n' (AEx.regionG 9 R (G' 6 R (a1' R (a1' R (pa' R ?_)))))))))))))
   exact an' (gq [0] (J1 z) R (n' (T' R (lq (o _ _ _ _ _ _ a) R))))
  exact ex' (S' (p' 2 R (qe' R trivial (B0.lenA _) (e' R (bk' (fq (r _ _ _ _ _ _ a) R))))))
 ·intro g0 U W y t r l q x1 i g d a
  refine Y0.unroll (t' R (S' (ci' R a (fun a=>?_) (fun a=>?_))))
  ·obtain ⟨a2,k,a⟩:=bs' a
   obtain ⟨S,v,a⟩:=bs' a
   exact sk' (S' (bk' (s' R R (i' R (D1 k) (B0.idx k) R (q' R (E0.nf hC R (E0.s hC R (n' (P' 4 R (gq [0] (J1 v) R (n' (T' R (lq (r _ _ _ _ _ _ a) R)))))))))))))
  obtain ⟨X,E,a⟩:=bs' a
  obtain ⟨T,w,a⟩:=bs' a
  obtain ⟨Z,u,a⟩:=bs' a
  exact ex' (p' 3 R (gq [0] (y _ _ _ E) R (n' (p' 3 R (gq [0] (y _ _ _ w) R (n' (P' 3 R (gq [0] (Vn u) R (n' (T' R (lq (t _ _ _ _ a) R)))))))))))
theorem C10 {l syntaxReport res}(a:X6 l syntaxReport=some res):Hp l syntaxReport res:=(My).1 _ _ _ a
def Bj (p:S0):Option J0:=
 X6 p.Decls (J0.mk 0 0 false false false)>>=fun x1=>
 C4 p.Body 1 x1>>=fun x2=>
 some x2
theorem X19 {p res}(a:Bj p=some res):L0 C 69 [.agg (S0.cells p)] [] (Ret [.dead,.row (J0.cells res) 154] (.ref 1 0)):=by
 unfold Bj at a
 obtain ⟨x1,c,a⟩:=bs' a
 obtain ⟨x2,b,a⟩:=bs' a
 refine L0.intro hC Tryz.func69 R R R (s' R R (E0.n hC R (e' R (p' 1 R (E0.n hC R (e' R (p' 3 R (gq [1] (C10 c) R (n' (p' 3 R (gq [1] (Vn b) R (n' (t' R ?_)))))))))))))
 refine re' ?_
 have d:=oi' a
 subst d
 exact ⟨_,_,[.dead,.row (J0.cells x2) 154],R,.rfl,⟨trivial,⟨R,.refl _,R⟩,trivial⟩,R,R,R,R⟩
def Dc (syntaxReport:J0):Option Int:=
 if (bif (decide (syntaxReport.nodes > 1024)) then true else (decide (syntaxReport.depth > 12)))=true then
  some 4
 else
  if syntaxReport.badForm=true then
   some 1
  else
   if syntaxReport.badName=true then
    some 7
   else
    if syntaxReport.badNumber=true then
     some 3
    else
     some 0
theorem P11 {syntaxReport res}(a:Dc syntaxReport=some res):L0 C 70 [.ref 0 0] [.row (J0.cells syntaxReport) 154] (Ret [.row (J0.cells syntaxReport) 154] (.d (.int .i64 res))):=by
 unfold Dc at a
 refine L0.intro hC Tryz.func70 R R R (t' R (S' (bk' (sg' 13 R (G' 7 R (a1' R (a1' R (a1' R (a1' R (po' R (a0' R (an' (n' (ci' R a (fun a=>?_) (fun a=>?_)))))))))))))))
 ·cases a
  exact t' R (re' (rq R))
 refine t' R (ci' R a (fun a=>?_) (fun a=>?_))
 ·cases a
  exact t' R (re' (rq R))
 refine t' R (ci' R a (fun a=>?_) (fun a=>?_))
 ·cases a
  exact t' R (re' (rq R))
 refine t' R (ci' R a (fun a=>?_) (fun a=>?_))
 ·cases a
  exact t' R (re' (rq R))
 cases a
 exact sk' (t' R (re' (rq R)))
def Km (p:S0):Option Int:=
 Bj p>>=fun x1=>
 Dc x1>>=fun x2=>
 some x2
theorem R1d {p res}(a:Km p=some res):L0 C 36 [.agg (S0.cells p)] [] (Ret [] (.d (.int .i64 res))):=by
 unfold Km at a
 obtain ⟨x1,c,a⟩:=bs' a
 obtain ⟨x2,b,a⟩:=bs' a
 cases a
 exact L0.intro hC Tryz.func36 R R R (s' R R (E0.n hC R (e' R (p' 1 R (gq [] (X19 c) R (gq [2] (P11 b) R (e' R (re' (rq R)))))))))
def Dd (text:Str):Option (S0×Int×Int):=
 Yi text (S0.mk [] [])>>=fun x1=>
 if (x1.2.1 != 0)=true then
  some ((S0.mk [] []),x1.1,x1.2.1)
 else
  Km x1.2.2>>=fun x2=>
  if (x2 != 0)=true then
   some ((S0.mk [] []),0,x2)
  else
   some (x1.2.2,0,0)
theorem S1d {text res}(a:Dd text=some res):L0 C 21 [.d (.str text)] [] (Ret [] (.tup [.agg (S0.cells res.1),.d (.int .i64 res.2.1),.d (.int .i64 res.2.2)])):=by
 unfold Dd at a
 obtain ⟨x1,c,a⟩:=bs' a
 refine L0.intro hC Tryz.func21 R R R (s' R R (E0.nf hC R (e' R (s' R R (E0.nf hC R (n' (p' 2 R (gq [1] (W19 c) R (e' R (S' (t' R (ci' R a (fun a=>?_) (fun a=>?_)))))))))))))
 ·cases a
  exact p' 3 R (E0.s hC R (e' R (re' (rq R))))
 obtain ⟨x2,b,a⟩:=bs' a
 refine sk' (S' (p' 1 R (cq (R1d b) R (e' R (t' R (ci' R a (fun a=>?_) (fun a=>?_)))))))
 ·cases a
  exact p' 2 R (E0.s hC R (e' R (re' (rq R))))
 cases a
 exact sk' (p' 1 R (E0.s hC R (e' R (re' (rq R)))))
def B3 (text:Str)(list:Str)(x3:Str)(x4:Str)(x5:Str)(x6:Str)(x7:Str)(v58:Int):Option (S0×Int):=
 if (decide (v58 < (([(U1.mk [60,65,62] x3),(U1.mk [60,66,62] x4),(U1.mk [60,84,62] x5),(U1.mk [60,97,62] x6),(U1.mk [60,98,62] x7),(U1.mk [60,78,62] list)]).length:Int)))=true then
  idx [(U1.mk [60,65,62] x3),(U1.mk [60,66,62] x4),(U1.mk [60,84,62] x5),(U1.mk [60,97,62] x6),(U1.mk [60,98,62] x7),(U1.mk [60,78,62] list)] v58>>=fun x8=>
  Eb text x8.x0 x8.x1>>=fun x9=>
  B3 x9 list x3 x4 x5 x6 x7 (IntKind.i64.wrap (v58+1))
 else
  Dd text>>=fun x10=>
  if (x10.2.2 != 0)=true then
   some ((S0.mk [] []),x10.2.2)
  else
   some (x10.1,0)
 partial_fixpoint
abbrev Wu (text:Str)(list:Str)(x3:Str)(x4:Str)(x5:Str)(x6:Str)(x7:Str)(v58:Int)(res:S0×Int):Prop:=LM C 80 0 Tryz.f7 [1,1,1,1,1,1,0,1,4] [(6,.ref 0 0),(11,.d (.str text)),(56,.full (U1.rows [(U1.mk [60,65,62] x3),(U1.mk [60,66,62] x4),(U1.mk [60,84,62] x5),(U1.mk [60,97,62] x6),(U1.mk [60,98,62] x7),(U1.mk [60,78,62] list)])),(57,.d (.int .i64 (([(U1.mk [60,65,62] x3),(U1.mk [60,66,62] x4),(U1.mk [60,84,62] x5),(U1.mk [60,97,62] x6),(U1.mk [60,98,62] x7),(U1.mk [60,78,62] list)]).length:Int))),(58,.d (.int .i64 v58))] [.row [.full (B0.rows []),.full (C0.rows [])] 26] (Ret [] (.tup [.agg (S0.cells res.1),.d (.int .i64 res.2)]))
theorem B16 (list:Str)(k:Str)(g:Str)(h:Str)(l:Str)(j:Str):(∀ text b c,B3 text list k g h l j b=some c→Wu text list k g h l j b c):=by
 refine B3.partial_correctness list k g h l j _ ?_
 ·intro p i text b c a
  refine Y0.unroll (t' R (S' (ci' R a (fun a=>?_) (fun a=>?_))))
  ·obtain ⟨q,e,a⟩:=bs' a
   obtain ⟨o,f,a⟩:=bs' a
   refine sk' (S' (bk' (s' R R (i' R (D1 e) (U1.idx e) R (q' R (E0.n hC R (E0.s hC R (n' (P' 1 R (qc' R (by decide) (q' R (qc' R (by decide) (q' R ?_)))))))))))))
   exact cq (G1d f) R (e' R (T' R (lq (i _ _ _ a) R)))
  obtain ⟨m,d,a⟩:=bs' a
  refine ex' (p' 1 R (cq (S1d d) R (o' 4 R (E0.nf hC R (E0.s hC R (e' R (S' (t' R (ci' R a (fun a=>?_) (fun a=>?_))))))))))
  ·cases a
   exact p' 2 R (E0.s hC R (e' R (re' (rq R))))
  cases a
  exact sk' (p' 1 R (E0.s hC R (e' R (re' (rq R)))))
theorem V17 {text list x3 x4 x5 x6 x7 v58 res}(a:B3 text list x3 x4 x5 x6 x7 v58=some res):Wu text list x3 x4 x5 x6 x7 v58 res:=(B16 list x3 x4 x5 x6 x7) _ _ _ a
def Ed (a:Int)(b:Int)(x1:P0×Int)(list:Str):Option (S0×Int):=
 Tg (IntKind.i64.wrap (a - 1))>>=fun x3=>
 Tg (IntKind.i64.wrap (b - 1))>>=fun x4=>
 Tg (IntKind.i64.wrap (a * b))>>=fun x5=>
 Tg a>>=fun x6=>
 Tg b>>=fun x7=>
 B3 x1.1.text list x3 x4 x5 x6 x7 0
theorem Ut {a b x1 list res}(c:Ed a b x1 list=some res):JM C 80 0 Tryz.f7 [1,1,1,1,1] [(1,.d (.int .i64 a)),(2,.d (.int .i64 b)),(6,.ref 0 0),(8,.ref 1 0),(10,.d (.str list))] [.row [.full (B0.rows []),.full (C0.rows [])] 26,.row (P0.cells x1.1) 46] (Ret [] (.tup [.agg (S0.cells res.1),.d (.int .i64 res.2)])):=by
 unfold Ed at c
 obtain ⟨m,g,c⟩:=bs' c
 obtain ⟨j,f,c⟩:=bs' c
 obtain ⟨k,i,c⟩:=bs' c
 obtain ⟨n,e,c⟩:=bs' c
 obtain ⟨l,h,c⟩:=bs' c
 refine t' R (S' (p' 2 R (cq (Bp g) R (o' 3 R (cq (Bp f) R (o' 4 R (cq (Bp i) R (o' 2 R (cq (Bp e) R (o' 2 R (cq (Bp h) R (o' 3 R ?_))))))))))))
 exact E0.be hC R (U1.rows_map [(U1.mk [60,65,62] m),(U1.mk [60,66,62] j),(U1.mk [60,84,62] k),(U1.mk [60,97,62] n),(U1.mk [60,98,62] l),(U1.mk [60,78,62] list)]).symm (qe' R trivial (U1.lenA _) (e' R (bk' (fq (V17 c) R))))
def K3 (family:Str)(a:Int)(b:Int):Option (S0×Int):=
 Ad family a b>>=fun x1=>
 if (x1.2 != 0)=true then
  some ((S0.mk [] []),x1.2)
 else
  if (x1.1.name == [115,101,97,114,99,104])=true then
   Ik a b>>=fun x2=>
   Ed a b x1 x2
  else
   Ed a b x1 []
theorem Zy {family a b res}(c:K3 family a b=some res):L0 C 7 [.d (.str family),.d (.int .i64 a),.d (.int .i64 b)] [] (Ret [] (.tup [.agg (S0.cells res.1),.d (.int .i64 res.2)])):=by
 unfold K3 at c
 obtain ⟨x1,f,c⟩:=bs' c
 refine L0.intro hC Tryz.func7 R R R (s' R R (E0.nf hC R (e' R (p' 3 R (cq (Xy f) R (o' 3 R (E0.n hC R (E0.s hC R (e' R (S' (t' R (ci' R c (fun c=>?_) (fun c=>?_)))))))))))))
 ·cases c
  exact p' 2 R (E0.s hC R (e' R (re' (rq R))))
 refine sk' (t' R (S' (t' R (ci' R c (fun c=>?_) (fun c=>?_)))))
 ·obtain ⟨x2,e,c⟩:=bs' c
  exact P' 2 R (cq (K1b e) R (e' R (eq' (Ut c) R)))
 exact sk' (eq' (Ut c) R)
def U6:Option Bool:=
 Jh [100,105,103,105,116,115] 3 4>>=fun x1=>
 Jh [115,101,97,114,99,104] 10 3>>=fun x2=>
 K3 [112,97,114,105,116,121] 4 0>>=fun x3=>
 some (bif (bif (bif (bif (bif (bif (bif (bif (x1.2.2 == 0) then (x2.2.2 == 0) else false) then (x3.2 == 0) else false) then (x1.1 == 4) else false) then (x1.2.1 == 2) else false) then (x2.1 == 3) else false) then (x2.2.1 == 1) else false) then (((x3.1.Decls).length:Int) == 1) else false) then (((x3.1.Body).length:Int) == 1) else false)
theorem I1f {res}(a:U6=some res):L0 C 6 [] [] (Ret [] (.d (.bool res))):=by
 unfold U6 at a
 obtain ⟨x1,c,a⟩:=bs' a
 obtain ⟨x2,b,a⟩:=bs' a
 obtain ⟨f,e,a⟩:=bs' a
 cases a
 refine L0.intro hC Tryz.func6 R R R (t' R (s' R R (cq (Uw c) R (e' R (s' R R (cq (Uw b) R (e' R (s' R R (cq (Zy e) R (o' 3 R (E0.nf hC R (E0.s hC R (e' R ?_)))))))))))))
 refine sg' 39 R (G' 4 R (a1' R (pa' R (G' 2 R (a1' R (pa' R (G' 2 R (a1' R (pa' R (G' 2 R (a1' R (pa' R (G' 2 R ?_)))))))))))))
 refine a1' R (pa' R (G' 2 R (a1' R (pa' R (G' 2 R (a1' R (AG.qe hC R (fun hg=>⟨⟨hg,trivial⟩,trivial⟩) (B0.lenA _) (a1' R (pa' R (G' 2 R (a1' R (AG.qe hC R (fun hg=>⟨⟨hg,trivial⟩,trivial⟩) (C0.lenA _) (a1' R ?_)))))))))))))
 exact pa' R (a0' R (an' (n' (re' (rq R)))))
def Z4 (a:Int)(b:Int)(lowA:Int)(highA:Int)(lowB:Int)(highB:Int):Option Int:=
 if (bif (bif (bif (decide (a < lowA)) then true else (decide (a > highA))) then true else (decide (b < lowB))) then true else (decide (b > highB)))=true then
  some 3
 else
  some 0
theorem I7 {a b lowA highA lowB highB res}(c:Z4 a b lowA highA lowB highB=some res):JM C 51 0 Tryz.f8 [1,1,1] [(1,.d (.int .i64 a)),(2,.d (.int .i64 b)),(7,.d (.int .i64 lowA)),(8,.d (.int .i64 highA)),(9,.d (.int .i64 lowB)),(10,.d (.int .i64 highB))] [] (Ret [] (.d (.int .i64 res))):=by
 unfold Z4 at c
 refine S' (sg' 18 R (G' 6 R (a2' R (po' R (G' 3 R (a2' R (po' R (G' 3 R (a2' R (po' R (an' (n' (ci' R c (fun c=>?_) (fun c=>?_))))))))))))))
 ·cases c
  exact t' R (re' (rq R))
 cases c
 exact sk' (t' R (re' (rq R)))
def Ph (family:Str)(a:Int)(b:Int)(v12:Bool):Option Int:=
 if v12=true then
  Z4 a b 2 64 0 0
 else
  if (family == [100,105,103,105,116,115])=true then
   Z4 a b 1 4 2 4
  else
   if (family == [98,105,116,115])=true then
    Z4 a b 1 8 0 0
   else
    if (family == [100,105,99,101])=true then
     Z4 a b 1 3 2 6
    else
     if (family == [112,111,119,101,114])=true then
      Z4 a b 1 6 0 0
     else
      if (family == [116,104,114,101,115,104,111,108,100])=true then
       Z4 a b 2 64 1 (IntKind.i64.wrap (a - 1))
      else
       if (family == [109,97,115,107,101,100])=true then
        Z4 a b 1 16 0 0
       else
        if (family == [115,101,97,114,99,104])=true then
         Z4 a b 1 64 1 (min a 8)
        else
         some 7
theorem Vt {family a b v12 res}(c:Ph family a b v12=some res):JM C 51 0 Tryz.f8 [1,1,0,1,4,1] [(1,.d (.int .i64 a)),(2,.d (.int .i64 b)),(9,.d (.int .i64 0)),(10,.d (.int .i64 0)),(11,.d (.str family)),(12,.d (.bool v12))] [] (Ret [] (.d (.int .i64 res))):=by
 unfold Ph at c
 refine ci' R c (fun c=>?_) (fun c=>?_)
 ·exact T' R (eq' (I7 c) R)
 refine t' R (ci' R c (fun c=>?_) (fun c=>?_))
 ·exact T' R (eq' (I7 c) R)
 refine t' R (ci' R c (fun c=>?_) (fun c=>?_))
 ·exact T' R (eq' (I7 c) R)
 refine t' R (ci' R c (fun c=>?_) (fun c=>?_))
 ·exact T' R (eq' (I7 c) R)
 refine t' R (ci' R c (fun c=>?_) (fun c=>?_))
 ·exact T' R (eq' (I7 c) R)
 refine t' R (ci' R c (fun c=>?_) (fun c=>?_))
 ·exact T' R (eq' (I7 c) R)
 refine t' R (ci' R c (fun c=>?_) (fun c=>?_))
 ·exact T' R (eq' (I7 c) R)
 refine t' R (ci' R c (fun c=>?_) (fun c=>?_))
 ·exact T' R (eq' (I7 c) R)
 cases c
 exact t' R (re' (rq R))
def Ye (family:Str)(a:Int)(b:Int):Option Int:=
 if (family == [112,97,115,115,119,111,114,100])=true then
  Ph family a b (family == [112,97,115,115,119,111,114,100])
 else
  Ph family a b (family == [112,97,114,105,116,121])
theorem T1d {family a b res}(c:Ye family a b=some res):L0 C 8 [.d (.str family),.d (.int .i64 a),.d (.int .i64 b)] [] (Ret [] (.d (.int .i64 res))):=by
 unfold Ye at c
 refine L0.intro hC Tryz.func8 R R R (t' R (t' R (S' (t' R (bk' (S' (t' R (ci' R c (fun c=>?_) (fun c=>?_)))))))))
 ·exact sk' (eq' (Vt c) R)
 exact T' R (eq' (Vt c) R)
mutual
def R8 (a:F0)(b:F0):Option Bool:=
 if (bif (bif (bif (bif (bif (bif (a.Kind != b.Kind) then true else (a.Low != b.Low)) then true else (a.High != b.High)) then true else (a.Size != b.Size)) then true else (!(a.Name == b.Name))) then true else (((a.Names).length:Int) != ((b.Names).length:Int))) then true else (((a.Of).length:Int) != ((b.Of).length:Int)))=true then
  some false
 else
  Ec a b 0
 partial_fixpoint
def Ec (a:F0)(b:F0)(i:Int):Option Bool:=
 if (decide (i < ((a.Names).length:Int)))=true then
  idx a.Names i>>=fun x1=>
  idx b.Names i>>=fun x2=>
  if (!(x1 == x2))=true then
   some false
  else
   Ec a b (IntKind.i64.wrap (i+1))
 else
  L9 a b 0
 partial_fixpoint
def L9 (a:F0)(b:F0)(i1:Int):Option Bool:=
 if (decide (i1 < ((a.Of).length:Int)))=true then
  idx a.Of i1>>=fun x3=>
  idx b.Of i1>>=fun x4=>
  R8 x3 x4>>=fun x5=>
  if (!x5)=true then
   some false
  else
   L9 a b (IntKind.i64.wrap (i1+1))
 else
  some true
 partial_fixpoint
end
abbrev Xu (a:F0)(b:F0)(res:Bool):Prop:=L0 C 37 [.agg (F0.cells a),.agg (F0.cells b)] [] (Ret [] (.d (.bool res)))
abbrev M13 (a:F0)(b:F0)(i:Int)(res:Bool):Prop:=LM C 95 0 Tryz.f37 [1,1,0,1,4] [(2,.ref 0 0),(3,.ref 1 0),(5,.d (.int .i64 i))] [.row (F0.cells a) 76,.row (F0.cells b) 76] (Ret [] (.d (.bool res)))
abbrev N13 (a:F0)(b:F0)(i1:Int)(res:Bool):Prop:=LM C 95 0 Tryz.f37 [1,1,1,0,1,4] [(2,.ref 0 0),(3,.ref 1 0),(6,.d (.int .i64 i1))] [.row (F0.cells a) 76,.row (F0.cells b) 76] (Ret [] (.d (.bool res)))
theorem C16:(∀ a b d,R8 a b=some d→Xu a b d)∧(∀ a b i d,Ec a b i=some d→M13 a b i d)∧(∀ a b o d,L9 a b o=some d→N13 a b o d):=by
 refine R8.mutual_partial_correctness _ _ _ ?_ ?_ ?_
 ·intro p f a b d c
  refine L0.intro hC Tryz.func37 R R R (s' R R (E0.n hC R (E0.n hC R (e' R (S' (sg' 51 R (G' 7 R (a1' R (a0' R (a1' R (a2' R (po' R (G' 2 R ?_)))))))))))))
  refine a1' R (a0' R (a1' R (a2' R (po' R (G' 2 R (a1' R (a0' R (a1' R (a2' R (po' R (G' 2 R (a1' R (a0' R ?_)))))))))))))
  refine a1' R (a2' R (po' R (G' 2 R (a1' R (AG.qe hC R (fun hg=>⟨⟨hg,trivial⟩,trivial⟩) (estr.lenA _) (a0' R (a1' R (AG.qe hC R (fun hg=>⟨⟨hg,trivial⟩,trivial⟩) (estr.lenA _) (a2' R (po' R (G' 2 R (a1' R (AG.qe hC R (fun hg=>⟨⟨hg,trivial⟩,trivial⟩) (F0.lenA _) ?_)))))))))))))
  refine a0' R (a1' R (AG.qe hC R (fun hg=>⟨⟨hg,trivial⟩,trivial⟩) (F0.lenA _) (a2' R (po' R (an' (n' (ci' R c (fun c=>?_) (fun c=>?_))))))))
  ·cases c
   exact t' R (re' (rq R))
  exact sk' (S' (t' R (bk' (fq (f _ _ _ _ c) R))))
 ·intro p q f e a b i d c
  refine Y0.unroll (S' (p' 3 R (qe' R trivial (estr.lenA _) (e' R (ci' R c (fun c=>?_) (fun c=>?_))))))
  ·obtain ⟨x1,k,c⟩:=bs' c
   obtain ⟨x2,j,c⟩:=bs' c
   refine sk' (S' (bk' (S' (AEx.draw hC 11 R R R (O' 3 R (AQ.i hC R (D1 k) (estr.idx k) R (O' 4 R (AQ.i hC R (D1 j) (estr.idx j) R (E' R (n' (ci' R c (fun c=>?_) (fun c=>?_))))))))))))
   ·cases c
    exact t' R (re' (rq R))
   exact sk' (T' R (lq (f _ _ _ _ c) R))
  exact ex' (S' (t' R (bk' (fq (e _ _ _ _ c) R))))
 ·intro u q m e a b o d c
  refine Y0.unroll (S' (p' 3 R (qe' R trivial (F0.lenA _) (e' R (ci' R c (fun c=>?_) (fun c=>?_))))))
  ·obtain ⟨t,g,c⟩:=bs' c
   obtain ⟨r,h,c⟩:=bs' c
   obtain ⟨s,l,c⟩:=bs' c
   refine sk' (S' (bk' (S' (AEx.draw hC 12 R R R (O' 3 R (AQ.i hC R (D1 g) (F0.idx g) R (O' 4 R (AQ.i hC R (D1 h) (F0.idx h) R (Q' R (Qc' (m _ _ _ l) R R (E' R (n' (ci' R c (fun c=>?_) (fun c=>?_))))))))))))))
   ·cases c
    exact t' R (re' (rq R))
   exact sk' (T' R (lq (e _ _ _ _ c) R))
  cases c
  exact ex' (t' R (re' (rq R)))
theorem Wt {a b res}(c:R8 a b=some res):Xu a b res:=(C16).1 _ _ _ c
mutual
def Y5 (a:A0)(b:A0):Option Bool:=
 if (bif (bif (bif (a.Op != b.Op) then true else (a.NV != b.NV)) then true else (!(a.Name == b.Name))) then true else (((a.Kids).length:Int) != ((b.Kids).length:Int)))=true then
  some false
 else
  Fc a b 0
 partial_fixpoint
def Fc (a:A0)(b:A0)(i:Int):Option Bool:=
 if (decide (i < ((a.Kids).length:Int)))=true then
  idx a.Kids i>>=fun x1=>
  idx b.Kids i>>=fun x2=>
  Y5 x1 x2>>=fun x3=>
  if (!x3)=true then
   some false
  else
   Fc a b (IntKind.i64.wrap (i+1))
 else
  some true
 partial_fixpoint
end
abbrev Yu (a:A0)(b:A0)(res:Bool):Prop:=L0 C 38 [.agg (A0.cells a),.agg (A0.cells b)] [] (Ret [] (.d (.bool res)))
abbrev O13 (a:A0)(b:A0)(i:Int)(res:Bool):Prop:=LM C 53 0 Tryz.f38 [1,1,0,1,4] [(2,.ref 0 0),(3,.ref 1 0),(5,.d (.int .i64 i))] [.row (A0.cells a) 80,.row (A0.cells b) 80] (Ret [] (.d (.bool res)))
theorem D16:(∀ a b d,Y5 a b=some d→Yu a b d)∧(∀ a b i d,Fc a b i=some d→O13 a b i d):=by
 refine Y5.mutual_partial_correctness _ _ ?_ ?_
 ·intro k e a b d c
  refine L0.intro hC Tryz.func38 R R R (s' R R (E0.n hC R (E0.n hC R (e' R (S' (sg' 28 R (G' 7 R (a1' R (a0' R (a1' R (a2' R (po' R (G' 2 R ?_)))))))))))))
  refine a1' R (a0' R (a1' R (a2' R (po' R (G' 2 R (a1' R (AG.qe hC R (fun hg=>⟨⟨hg,trivial⟩,trivial⟩) (A0.lenA _) (a0' R (a1' R (AG.qe hC R (fun hg=>⟨⟨hg,trivial⟩,trivial⟩) (A0.lenA _) (a2' R (po' R (an' ?_)))))))))))))
  refine n' (ci' R c (fun c=>?_) (fun c=>?_))
  ·cases c
   exact t' R (re' (rq R))
  exact sk' (S' (t' R (bk' (fq (e _ _ _ _ c) R))))
 ·intro m k h e a b i d c
  refine Y0.unroll (S' (p' 3 R (qe' R trivial (A0.lenA _) (e' R (ci' R c (fun c=>?_) (fun c=>?_))))))
  ·obtain ⟨x1,g,c⟩:=bs' c
   obtain ⟨x2,f,c⟩:=bs' c
   obtain ⟨l,j,c⟩:=bs' c
   refine sk' (S' (bk' (S' (AEx.draw hC 12 R R R (O' 3 R (AQ.i hC R (D1 g) (A0.idx g) R (O' 4 R (AQ.i hC R (D1 f) (A0.idx f) R (Q' R (Qc' (h _ _ _ j) R R (E' R (n' (ci' R c (fun c=>?_) (fun c=>?_))))))))))))))
   ·cases c
    exact t' R (re' (rq R))
   exact sk' (T' R (lq (e _ _ _ _ c) R))
  cases c
  exact ex' (t' R (re' (rq R)))
theorem Ze {a b res}(c:Y5 a b=some res):Yu a b res:=(D16).1 _ _ _ c
mutual
def T7 (a:List C0)(b:List C0):Option Bool:=
 if (((a).length:Int) != ((b).length:Int))=true then
  some false
 else
  Za a b 0
 partial_fixpoint
def Za (a:List C0)(b:List C0)(i:Int):Option Bool:=
 if (decide (i < ((a).length:Int)))=true then
  idx a i>>=fun x1=>
  idx b i>>=fun x2=>
  if (bif (bif (bif (bif (bif (bif (x1.Verb != x2.Verb) then true else (!(x1.Name == x2.Name))) then true else (x1.NV != x2.NV)) then true else (x1.Low != x2.Low)) then true else (x1.High != x2.High)) then true else (((x1.Args).length:Int) != ((x2.Args).length:Int))) then true else (((x1.Numbers).length:Int) != ((x2.Numbers).length:Int)))=true then
   some false
  else
   Ab a b x1 x2 i 0
 else
  some true
 partial_fixpoint
def Ab (a:List C0)(b:List C0)(x1:C0)(x2:C0)(i1:Int)(k:Int):Option Bool:=
 if (decide (k < ((x1.Args).length:Int)))=true then
  idx x1.Args k>>=fun x3=>
  idx x2.Args k>>=fun x4=>
  Y5 x3 x4>>=fun x5=>
  if (!x5)=true then
   some false
  else
   Ab a b x1 x2 i1 (IntKind.i64.wrap (k+1))
 else
  O8 a b x1 x2 i1 0
 partial_fixpoint
def O8 (a:List C0)(b:List C0)(x1:C0)(x2:C0)(i2:Int)(k1:Int):Option Bool:=
 if (decide (k1 < ((x1.Numbers).length:Int)))=true then
  idx x1.Numbers k1>>=fun x6=>
  idx x2.Numbers k1>>=fun x7=>
  if (x6 != x7)=true then
   some false
  else
   O8 a b x1 x2 i2 (IntKind.i64.wrap (k1+1))
 else
  Y5 x1.Place x2.Place>>=fun x8=>
  (if (!(!x8))=true then Y5 x1.Value x2.Value else some default)>>=fun x9=>
  (if (!(bif (!x8) then true else (!x9)))=true then T7 x1.Then x2.Then else some default)>>=fun x10=>
  (if (!(bif (bif (!x8) then true else (!x9)) then true else (!x10)))=true then T7 x1.Else x2.Else else some default)>>=fun x11=>
  if (bif (bif (bif (!x8) then true else (!x9)) then true else (!x10)) then true else (!x11))=true then
   some false
  else
   Za a b (IntKind.i64.wrap (i2+1))
 partial_fixpoint
end
abbrev Xt (a:List C0)(b:List C0)(res:Bool):Prop:=L0 C 23 [.d (.sl (C0.rows a)),.d (.sl (C0.rows b))] [] (Ret [] (.d (.bool res)))
abbrev Q11 (a:List C0)(b:List C0)(i:Int)(res:Bool):Prop:=LM C 147 0 Tryz.f23 [1,1,0,1,4] [(0,.d (.sl (C0.rows a))),(1,.d (.sl (C0.rows b))),(5,.d (.int .i64 i))] [] (Ret [] (.d (.bool res)))
abbrev R11 (a:List C0)(b:List C0)(x1:C0)(x2:C0)(i1:Int)(k:Int)(res:Bool):Prop:=LM C 147 0 Tryz.f23 [1,1,0,1,4,5,1,0,4,1,1,1,0,1,4] [(0,.d (.sl (C0.rows a))),(1,.d (.sl (C0.rows b))),(5,.d (.int .i64 i1)),(6,.ref 0 0),(7,.ref 1 0),(8,.d (.int .i64 k))] [.row (C0.cells x1) 88,.row (C0.cells x2) 88] (Ret [] (.d (.bool res)))
abbrev S11 (a:List C0)(b:List C0)(x1:C0)(x2:C0)(i2:Int)(k1:Int)(res:Bool):Prop:=LM C 147 0 Tryz.f23 [1,1,0,1,4,5,1,0,4,1,1,1,1,0,1,4] [(0,.d (.sl (C0.rows a))),(1,.d (.sl (C0.rows b))),(5,.d (.int .i64 i2)),(6,.ref 0 0),(7,.ref 1 0),(9,.d (.int .i64 k1))] [.row (C0.cells x1) 88,.row (C0.cells x2) 88] (Ret [] (.d (.bool res)))
theorem P13:(∀ a b e,T7 a b=some e→Xt a b e)∧(∀ a b i e,Za a b i=some e→Q11 a b i e)∧(∀ a b x1 x2 A k e,Ab a b x1 x2 A k=some e→R11 a b x1 x2 A k e)∧(∀ a b x1 x2 y w e,O8 a b x1 x2 y w=some e→S11 a b x1 x2 y w e):=by
 refine T7.mutual_partial_correctness _ _ _ _ ?_ ?_ ?_ ?_
 ·intro C h a b e d
  refine L0.intro hC Tryz.func23 R R R (t' R (S' (p' 1 R (qe' R trivial (C0.lenA _) (q' R (qe' R trivial (C0.lenA _) (e' R (ci' R d (fun d=>?_) (fun d=>?_)))))))))
  ·cases d
   exact t' R (re' (rq R))
  exact sk' (S' (t' R (bk' (fq (h _ _ _ _ d) R))))
 ·intro D f a b i e d
  refine Y0.unroll (S' (p' 2 R (qe' R trivial (C0.lenA _) (e' R (ci' R d (fun d=>?_) (fun d=>?_))))))
  ·obtain ⟨x1,u,d⟩:=bs' d
   obtain ⟨x2,r,d⟩:=bs' d
   refine sk' (S' (bk' (p' 2 R (i' R (D1 u) (C0.idx u) R (q' R (E0.nf hC R (E0.s hC R (n' (p' 2 R (i' R (D1 r) (C0.idx r) R (q' R (E0.nf hC R (E0.s hC R ?_)))))))))))))
   refine n' (S' (sg' 51 R (G' 7 R (a1' R (a0' R (a1' R (a2' R (po' R (G' 2 R (a1' R (a0' R (a1' R (a2' R ?_)))))))))))))
   refine po' R (G' 2 R (a1' R (a0' R (a1' R (a2' R (po' R (G' 2 R (a1' R (a0' R (a1' R (a2' R (po' R (G' 2 R ?_)))))))))))))
   refine a1' R (AG.qe hC R (fun hg=>⟨⟨hg,trivial⟩,trivial⟩) (A0.lenA _) (a0' R (a1' R (AG.qe hC R (fun hg=>⟨⟨hg,trivial⟩,trivial⟩) (A0.lenA _) (a2' R (po' R (G' 2 R (a1' R (AG.qe hC R (fun hg=>⟨⟨hg,trivial⟩,trivial⟩) (ei64.lenA _) (a0' R (a1' R (AG.qe hC R (fun hg=>⟨⟨hg,trivial⟩,trivial⟩) (ei64.lenA _) (a2' R ?_)))))))))))))
   refine po' R (an' (n' (ci' R d (fun d=>?_) (fun d=>?_))))
   ·cases d
    exact t' R (re' (rq R))
   exact sk' (S' (t' R (bk' (fq (f _ _ _ _ _ _ _ d) R))))
  cases d
  exact ex' (t' R (re' (rq R)))
 ·intro D B f g a b x1 x2 A k e d
  refine Y0.unroll (S' (p' 3 R (qe' R trivial (A0.lenA _) (e' R (ci' R d (fun d=>?_) (fun d=>?_))))))
  ·obtain ⟨L,m,d⟩:=bs' d
   obtain ⟨G,n,d⟩:=bs' d
   obtain ⟨K,v,d⟩:=bs' d
   refine sk' (S' (bk' (S' (AEx.draw hC 12 R R R (O' 3 R (AQ.i hC R (D1 m) (A0.idx m) R (O' 4 R (AQ.i hC R (D1 n) (A0.idx n) R (Q' R (Qc' (Ze v) R R (E' R (n' (ci' R d (fun d=>?_) (fun d=>?_))))))))))))))
   ·cases d
    exact t' R (re' (rq R))
   exact sk' (T' R (lq (f _ _ _ _ _ _ _ d) R))
  exact ex' (S' (t' R (bk' (fq (g _ _ _ _ _ _ _ d) R))))
 ·intro M C B l h g a b x1 x2 y w e d
  refine Y0.unroll (S' (p' 3 R (qe' R trivial (ei64.lenA _) (e' R (ci' R d (fun d=>?_) (fun d=>?_))))))
  ·obtain ⟨H,t,d⟩:=bs' d
   obtain ⟨I,j,d⟩:=bs' d
   refine sk' (S' (bk' (S' (AEx.draw hC 11 R R R (O' 3 R (AQ.i hC R (D1 t) (ei64.idx t) R (O' 4 R (AQ.i hC R (D1 j) (ei64.idx j) R (E' R (n' (ci' R d (fun d=>?_) (fun d=>?_))))))))))))
   ·cases d
    exact t' R (re' (rq R))
   exact sk' (T' R (lq (g _ _ _ _ _ _ _ d) R))
  obtain ⟨N,z,d⟩:=bs' d
  obtain ⟨J,x,d⟩:=bs' d
  obtain ⟨E,q,d⟩:=bs' d
  obtain ⟨F,o,d⟩:=bs' d
  refine ex' (sg' 30 R (G' 4 R (AG.c R R (fun _=>trivial) (fun _=>Ze z) (G' 3 R (a1' R (a0' R (a1' R (AG.c R R (fun hg=>⟨hg,hg,trivial⟩) (fun p=>Ze (G1 p x)) (a1' R (po' R (G' 2 R (a1' R (a0' R ?_)))))))))))))
  refine a1' R (AG.c R R (fun hg=>⟨hg,hg,trivial⟩) (fun p=>l _ _ _ (G1 p q)) (a1' R (po' R (G' 2 R (a1' R (a0' R (a1' R (AG.c R R (fun hg=>⟨hg,hg,trivial⟩) (fun p=>l _ _ _ (G1 p o)) (a1' R (po' R (an' (n' (ci' R d (fun d=>?_) (fun d=>?_))))))))))))))
  ·cases d
   exact t' R (re' (rq R))
  exact sk' (T' R (lq (h _ _ _ _ d) R))
theorem Dr {a b res}(c:T7 a b=some res):Xt a b res:=(P13).1 _ _ _ c
mutual
def M9 (a:List B0)(b:List B0):Option Bool:=
 if (((a).length:Int) != ((b).length:Int))=true then
  some false
 else
  Bb a b 0
 partial_fixpoint
def Bb (a:List B0)(b:List B0)(i:Int):Option Bool:=
 if (decide (i < ((a).length:Int)))=true then
  idx a i>>=fun x1=>
  idx b i>>=fun x2=>
  (if (!(bif (bif (x1.Kind != x2.Kind) then true else (!(x1.Name == x2.Name))) then true else (x1.Init != x2.Init)))=true then R8 x1.TypeV x2.TypeV else some default)>>=fun x3=>
  (if (!(bif (bif (bif (x1.Kind != x2.Kind) then true else (!(x1.Name == x2.Name))) then true else (x1.Init != x2.Init)) then true else (!x3)))=true then Y5 x1.Value x2.Value else some default)>>=fun x4=>
  (if (!(bif (bif (bif (bif (x1.Kind != x2.Kind) then true else (!(x1.Name == x2.Name))) then true else (x1.Init != x2.Init)) then true else (!x3)) then true else (!x4)))=true then M9 x1.Params x2.Params else some default)>>=fun x5=>
  (if (!(bif (bif (bif (bif (bif (x1.Kind != x2.Kind) then true else (!(x1.Name == x2.Name))) then true else (x1.Init != x2.Init)) then true else (!x3)) then true else (!x4)) then true else (!x5)))=true then M9 x1.Vars x2.Vars else some default)>>=fun x6=>
  (if (!(bif (bif (bif (bif (bif (bif (x1.Kind != x2.Kind) then true else (!(x1.Name == x2.Name))) then true else (x1.Init != x2.Init)) then true else (!x3)) then true else (!x4)) then true else (!x5)) then true else (!x6)))=true then T7 x1.Body x2.Body else some default)>>=fun x7=>
  if (bif (bif (bif (bif (bif (bif (bif (x1.Kind != x2.Kind) then true else (!(x1.Name == x2.Name))) then true else (x1.Init != x2.Init)) then true else (!x3)) then true else (!x4)) then true else (!x5)) then true else (!x6)) then true else (!x7))=true then
   some false
  else
   Bb a b (IntKind.i64.wrap (i+1))
 else
  some true
 partial_fixpoint
end
abbrev Yt (a:List B0)(b:List B0)(res:Bool):Prop:=L0 C 22 [.d (.sl (B0.rows a)),.d (.sl (B0.rows b))] [] (Ret [] (.d (.bool res)))
abbrev T11 (a:List B0)(b:List B0)(i:Int)(res:Bool):Prop:=LM C 86 0 Tryz.f22 [1,1,0,1,4] [(0,.d (.sl (B0.rows a))),(1,.d (.sl (B0.rows b))),(5,.d (.int .i64 i))] [] (Ret [] (.d (.bool res)))
theorem Q13:(∀ a b e,M9 a b=some e→Yt a b e)∧(∀ a b i e,Bb a b i=some e→T11 a b i e):=by
 refine M9.mutual_partial_correctness _ _ ?_ ?_
 ·intro q g a b e d
  refine L0.intro hC Tryz.func22 R R R (t' R (S' (p' 1 R (qe' R trivial (B0.lenA _) (q' R (qe' R trivial (B0.lenA _) (e' R (ci' R d (fun d=>?_) (fun d=>?_)))))))))
  ·cases d
   exact t' R (re' (rq R))
  exact sk' (S' (t' R (bk' (fq (g _ _ _ _ d) R))))
 ·intro x q h g a b i e d
  refine Y0.unroll (S' (p' 2 R (qe' R trivial (B0.lenA _) (e' R (ci' R d (fun d=>?_) (fun d=>?_))))))
  ·obtain ⟨x1,k,d⟩:=bs' d
   obtain ⟨x2,j,d⟩:=bs' d
   obtain ⟨w,n,d⟩:=bs' d
   obtain ⟨r,o,d⟩:=bs' d
   obtain ⟨v,l,d⟩:=bs' d
   obtain ⟨t,p,d⟩:=bs' d
   obtain ⟨u,m,d⟩:=bs' d
   refine sk' (S' (bk' (p' 2 R (i' R (D1 k) (B0.idx k) R (q' R (E0.nf hC R (E0.s hC R (n' (p' 2 R (i' R (D1 j) (B0.idx j) R (q' R (E0.nf hC R (E0.s hC R ?_)))))))))))))
   refine n' (sg' 59 R (G' 7 R (a1' R (a0' R (a1' R (a2' R (po' R (G' 2 R (a1' R (a0' R (a1' R (a2' R (po' R ?_)))))))))))))
   refine G' 2 R (a1' R (a0' R (a1' R (AG.c R R (fun hg=>⟨hg,hg,trivial⟩) (fun f=>Wt (G1 f n)) (a1' R (po' R (G' 2 R (a1' R (a0' R (a1' R (AG.c R R (fun hg=>⟨hg,hg,trivial⟩) (fun f=>Ze (G1 f o)) (a1' R (po' R ?_)))))))))))))
   refine G' 2 R (a1' R (a0' R (a1' R (AG.c R R (fun hg=>⟨hg,hg,trivial⟩) (fun f=>h _ _ _ (G1 f l)) (a1' R (po' R (G' 2 R (a1' R (a0' R (a1' R (AG.c R R (fun hg=>⟨hg,hg,trivial⟩) (fun f=>h _ _ _ (G1 f p)) (a1' R (po' R ?_)))))))))))))
   refine G' 2 R (a1' R (a0' R (a1' R (AG.c R R (fun hg=>⟨hg,hg,trivial⟩) (fun f=>Dr (G1 f m)) (a1' R (po' R (an' (n' (ci' R d (fun d=>?_) (fun d=>?_))))))))))
   ·cases d
    exact t' R (re' (rq R))
   exact sk' (T' R (lq (g _ _ _ _ d) R))
  cases d
  exact ex' (t' R (re' (rq R)))
theorem E16 {a b res}(c:M9 a b=some res):Yt a b res:=(Q13).1 _ _ _ c
def Cl (p:S0)(q:S0):Option Bool:=
 M9 p.Decls q.Decls>>=fun x1=>
 (if x1=true then T7 p.Body q.Body else some default)>>=fun x2=>
 some (bif x1 then x2 else false)
theorem U11 {p q res}(a:Cl p q=some res):L0 C 9 [.agg (S0.cells p),.agg (S0.cells q)] [] (Ret [] (.d (.bool res))):=by
 unfold Cl at a
 obtain ⟨x1,e,a⟩:=bs' a
 obtain ⟨x2,b,a⟩:=bs' a
 cases a
 refine L0.intro hC Tryz.func9 R R R (s' R R (E0.n hC R (E0.n hC R (e' R (sg' 13 R (G' 4 R (AG.c R R (fun _=>trivial) (fun _=>E16 e) (G' 2 R (a1' R (a0' R (a1' R (AG.c R R (fun hg=>⟨hg,hg,trivial⟩) (fun f=>Dr (G1 f b)) (pa' R ?_)))))))))))))
 exact a0' R (an' (n' (re' (rq R))))
def Jb (n:Int):Option Str:=
 if (decide (n < 0))=true then
  Jb (IntKind.i64.wrap (0 - n))>>=fun x1=>
  if (decide (1+x1.length≤maxLen))=true then
   some ([45]++x1)
  else none
 else
  if (decide (n < 10))=true then
   some (Bl [(IntKind.u8.wrap (IntKind.i64.wrap (48+(Int.tmod n 10))))])
  else
   Jb (IntKind.i64.wrap (Int.tdiv n 10))>>=fun x2=>
   if (decide (x2.length+(Bl [(IntKind.u8.wrap (IntKind.i64.wrap (48+(Int.tmod n 10))))]).length≤maxLen))=true then
    some (x2++(Bl [(IntKind.u8.wrap (IntKind.i64.wrap (48+(Int.tmod n 10))))]))
   else none
 partial_fixpoint
abbrev V11 (n:Int)(res:Str):Prop:=L0 C 85 [.d (.int .i64 n)] [] (Ret [] (.d (.str res)))
theorem O1b:(∀ n b,Jb n=some b→V11 n b):=by
 refine Jb.partial_correctness _ ?_
 ·intro f c n b a
  refine L0.intro hC Tryz.func85 R R R (t' R (S' (t' R (ci' R a (fun a=>?_) (fun a=>?_)))))
  ·obtain ⟨x1,e,a⟩:=bs' a
   obtain ⟨c3,a⟩:=Z0 a
   cases a
   exact p' 2 R (cq (c _ _ e) R (qc' R c3 (e' R (re' (rq R)))))
  refine sk' (p' 1 R (qc' R (by decide) (o' 2 R (E0.be hC R (eu8.rows_map [(IntKind.u8.wrap (IntKind.i64.wrap (48+(Int.tmod n 10))))]).symm (E0.cs hC R (xs:=[(IntKind.u8.wrap (IntKind.i64.wrap (48+(Int.tmod n 10))))]) R (e' R (S' (t' R (ci' R a (fun a=>?_) (fun a=>?_))))))))))
  ·cases a
   exact t' R (re' (rq R))
  obtain ⟨x2,d,a⟩:=bs' a
  obtain ⟨c4,a⟩:=Z0 a
  cases a
  exact sk' (p' 1 R (qc' R (by decide) (cq (c _ _ d) R (q' R (qc' R c4 (e' R (re' (rq R))))))))
theorem U1d {n res}(a:Jb n=some res):V11 n res:=(O1b) _ _ a
def Y2 (n:Int):Option Str:=
 Jb n>>=fun x1=>
 some x1
theorem D4 {n res}(a:Y2 n=some res):L0 C 43 [.d (.int .i64 n)] [] (Ret [] (.d (.str res))):=by
 unfold Y2 at a
 obtain ⟨x1,b,a⟩:=bs' a
 cases a
 exact L0.intro hC Tryz.func43 R R R (t' R (p' 1 R (cq (U1d b) R (e' R (re' (rq R))))))
mutual
def Qd (a:Int)(b:Int)(x1:Str)(bounds:Str)(j:Int):Option Str:=
 if (decide (j≤b))=true then
  if (decide (j > 1))=true then
   if (decide (bounds.length+2≤maxLen))=true then
    Sk a b x1 (bounds++[44,32]) j
   else none
  else
   Sk a b x1 bounds j
 else
  if (decide (17+x1.length≤maxLen))=true then
   if (decide (([115,101,99,114,101,116,32,115,58,32,105,110,116,91,48,46,46]++x1).length+17≤maxLen))=true then
    Y2 a>>=fun x17=>
    if (decide ((([115,101,99,114,101,116,32,115,58,32,105,110,116,91,48,46,46]++x1)++[93,59,32,118,97,114,32,105,58,32,105,110,116,91,48,46,46]).length+x17.length≤maxLen))=true then
     if (decide (((([115,101,99,114,101,116,32,115,58,32,105,110,116,91,48,46,46]++x1)++[93,59,32,118,97,114,32,105,58,32,105,110,116,91,48,46,46])++x17).length+27≤maxLen))=true then
      Y2 a>>=fun x18=>
      if (decide ((((([115,101,99,114,101,116,32,115,58,32,105,110,116,91,48,46,46]++x1)++[93,59,32,118,97,114,32,105,58,32,105,110,116,91,48,46,46])++x17)++[93,59,32,98,101,103,105,110,32,119,104,105,108,101,32,105,32,60,32,115,32,108,105,109,105,116,32]).length+x18.length≤maxLen))=true then
       if (decide (((((([115,101,99,114,101,116,32,115,58,32,105,110,116,91,48,46,46]++x1)++[93,59,32,118,97,114,32,105,58,32,105,110,116,91,48,46,46])++x17)++[93,59,32,98,101,103,105,110,32,119,104,105,108,101,32,105,32,60,32,115,32,108,105,109,105,116,32])++x18).length+23≤maxLen))=true then
        if (decide ((((((([115,101,99,114,101,116,32,115,58,32,105,110,116,91,48,46,46]++x1)++[93,59,32,118,97,114,32,105,58,32,105,110,116,91,48,46,46])++x17)++[93,59,32,98,101,103,105,110,32,119,104,105,108,101,32,105,32,60,32,115,32,108,105,109,105,116,32])++x18)++[32,123,32,105,32,61,32,105,32,43,32,49,59,32,125,32,115,101,116,116,108,101,32]).length+bounds.length≤maxLen))=true then
         if (decide (((((((([115,101,99,114,101,116,32,115,58,32,105,110,116,91,48,46,46]++x1)++[93,59,32,118,97,114,32,105,58,32,105,110,116,91,48,46,46])++x17)++[93,59,32,98,101,103,105,110,32,119,104,105,108,101,32,105,32,60,32,115,32,108,105,109,105,116,32])++x18)++[32,123,32,105,32,61,32,105,32,43,32,49,59,32,125,32,115,101,116,116,108,101,32])++bounds).length+5≤maxLen))=true then
          some (((((((([115,101,99,114,101,116,32,115,58,32,105,110,116,91,48,46,46]++x1)++[93,59,32,118,97,114,32,105,58,32,105,110,116,91,48,46,46])++x17)++[93,59,32,98,101,103,105,110,32,119,104,105,108,101,32,105,32,60,32,115,32,108,105,109,105,116,32])++x18)++[32,123,32,105,32,61,32,105,32,43,32,49,59,32,125,32,115,101,116,116,108,101,32])++bounds)++[59,32,101,110,100])
         else none
        else none
       else none
      else none
     else none
    else none
   else none
  else none
 partial_fixpoint
def Sk (a:Int)(b:Int)(x1:Str)(bounds1:Str)(j1:Int):Option Str:=
 if (decide (b≠0))=true then
  Y2 (IntKind.i64.wrap ((IntKind.i64.wrap (4 * (IntKind.i64.wrap (Int.tdiv (IntKind.i64.wrap ((IntKind.i64.wrap ((IntKind.i64.wrap (j1 * a))+b)) - 1)) b)))) - 2))>>=fun x16=>
  if (decide (bounds1.length+x16.length≤maxLen))=true then
   Qd a b x1 (bounds1++x16) (IntKind.i64.wrap (j1+1))
  else none
 else none
 partial_fixpoint
end
abbrev Az (a:Int)(b:Int)(x1:Str)(bounds:Str)(j:Int)(res:Str):Prop:=LM C 153 0 Tryz.f25 [1,1,1,1,0,1,4] [(1,.d (.int .i64 a)),(2,.d (.int .i64 b)),(7,.d (.str x1)),(8,.d (.str bounds)),(9,.d (.int .i64 j))] [] (Ret [] (.d (.str res)))
abbrev V1d (a:Int)(b:Int)(x1:Str)(bounds1:Str)(j1:Int)(res:Str):Prop:=JM C 153 0 Tryz.f25 [1,1,1,1,0,1,4,5,1,0,4,1] [(1,.d (.int .i64 a)),(2,.d (.int .i64 b)),(7,.d (.str x1)),(8,.d (.str bounds1)),(9,.d (.int .i64 j1))] [] (Ret [] (.d (.str res)))
theorem Y19 (a:Int)(b:Int)(x1:Str):(∀ bounds j e,Qd a b x1 bounds j=some e→Az a b x1 bounds j e)∧(∀ d v e,Sk a b x1 d v=some e→V1d a b x1 d v e):=by
 refine Qd.mutual_partial_correctness a b x1 _ _ ?_ ?_
 ·intro A u bounds j e c
  refine Y0.unroll (S' (t' R (ci' R c (fun c=>?_) (fun c=>?_))))
  ·refine sk' (S' (bk' (S' (t' R (ci' R c (fun c=>?_) (fun c=>?_))))))
   ·obtain ⟨o,c⟩:=Z0 c
    exact P' 1 R (qc' R o (e' R (eq' (u _ _ _ c) R)))
   exact sk' (eq' (u _ _ _ c) R)
  obtain ⟨h,c⟩:=Z0 c
  obtain ⟨p,c⟩:=Z0 c
  obtain ⟨z,t,c⟩:=bs' c
  obtain ⟨s,c⟩:=Z0 c
  obtain ⟨q,c⟩:=Z0 c
  obtain ⟨y,k,c⟩:=bs' c
  obtain ⟨l,c⟩:=Z0 c
  obtain ⟨g,c⟩:=Z0 c
  obtain ⟨f,c⟩:=Z0 c
  obtain ⟨r,c⟩:=Z0 c
  cases c
  refine ex' (p' 1 R (qc' R h (qc' R p (q' R (cq (D4 t) R (qc' R s (qc' R q (q' R (cq (D4 k) R (qc' R l (qc' R g (q' R (qc' R f ?_)))))))))))))
  exact qc' R r (e' R (re' (rq R)))
 ·intro B w d v e c
  obtain ⟨m,c⟩:=Z0 c
  obtain ⟨x,i,c⟩:=bs' c
  obtain ⟨n,c⟩:=Z0 c
  exact P' 8 R (qc' R m (o' 2 R (cq (D4 i) R (qc' R n (e' R (T' R (lq (w _ _ _ c) R)))))))
theorem P1b {a b x1 bounds j res}(c:Qd a b x1 bounds j=some res):Az a b x1 bounds j res:=(Y19 a b x1).1 _ _ _ c
def A4 (family:Str)(a:Int)(b:Int):Option Str:=
 Y2 (IntKind.i64.wrap (a - 1))>>=fun x1=>
 if (family == [112,97,115,115,119,111,114,100])=true then
  if (decide (19+x1.length≤maxLen))=true then
   if (decide (([115,101,99,114,101,116,32,112,105,110,58,32,105,110,116,91,48,46,46]++x1).length+24≤maxLen))=true then
    if (decide ((([115,101,99,114,101,116,32,112,105,110,58,32,105,110,116,91,48,46,46]++x1)++[93,59,32,112,117,98,108,105,99,32,103,117,101,115,115,58,32,105,110,116,91,48,46,46]).length+x1.length≤maxLen))=true then
     if (decide (((([115,101,99,114,101,116,32,112,105,110,58,32,105,110,116,91,48,46,46]++x1)++[93,59,32,112,117,98,108,105,99,32,103,117,101,115,115,58,32,105,110,116,91,48,46,46])++x1).length+33≤maxLen))=true then
      some (((([115,101,99,114,101,116,32,112,105,110,58,32,105,110,116,91,48,46,46]++x1)++[93,59,32,112,117,98,108,105,99,32,103,117,101,115,115,58,32,105,110,116,91,48,46,46])++x1)++[93,59,32,98,101,103,105,110,32,111,117,116,112,117,116,32,112,105,110,32,61,61,32,103,117,101,115,115,59,32,101,110,100])
     else none
    else none
   else none
  else none
 else
  if (family == [100,105,103,105,116,115])=true then
   Y2 a>>=fun x2=>
   if (decide (18+x2.length≤maxLen))=true then
    if (decide (([115,101,99,114,101,116,32,112,105,110,58,32,97,114,114,97,121,32]++x2).length+11≤maxLen))=true then
     Y2 (IntKind.i64.wrap (b - 1))>>=fun x3=>
     if (decide ((([115,101,99,114,101,116,32,112,105,110,58,32,97,114,114,97,121,32]++x2)++[32,111,102,32,105,110,116,91,48,46,46]).length+x3.length≤maxLen))=true then
      if (decide (((([115,101,99,114,101,116,32,112,105,110,58,32,97,114,114,97,121,32]++x2)++[32,111,102,32,105,110,116,91,48,46,46])++x3).length+23≤maxLen))=true then
       Y2 a>>=fun x4=>
       if (decide ((((([115,101,99,114,101,116,32,112,105,110,58,32,97,114,114,97,121,32]++x2)++[32,111,102,32,105,110,116,91,48,46,46])++x3)++[93,59,32,112,117,98,108,105,99,32,103,117,101,115,115,58,32,97,114,114,97,121,32]).length+x4.length≤maxLen))=true then
        if (decide (((((([115,101,99,114,101,116,32,112,105,110,58,32,97,114,114,97,121,32]++x2)++[32,111,102,32,105,110,116,91,48,46,46])++x3)++[93,59,32,112,117,98,108,105,99,32,103,117,101,115,115,58,32,97,114,114,97,121,32])++x4).length+11≤maxLen))=true then
         Y2 (IntKind.i64.wrap (b - 1))>>=fun x5=>
         if (decide ((((((([115,101,99,114,101,116,32,112,105,110,58,32,97,114,114,97,121,32]++x2)++[32,111,102,32,105,110,116,91,48,46,46])++x3)++[93,59,32,112,117,98,108,105,99,32,103,117,101,115,115,58,32,97,114,114,97,121,32])++x4)++[32,111,102,32,105,110,116,91,48,46,46]).length+x5.length≤maxLen))=true then
          if (decide (((((((([115,101,99,114,101,116,32,112,105,110,58,32,97,114,114,97,121,32]++x2)++[32,111,102,32,105,110,116,91,48,46,46])++x3)++[93,59,32,112,117,98,108,105,99,32,103,117,101,115,115,58,32,97,114,114,97,121,32])++x4)++[32,111,102,32,105,110,116,91,48,46,46])++x5).length+17≤maxLen))=true then
           Y2 a>>=fun x6=>
           if (decide ((((((((([115,101,99,114,101,116,32,112,105,110,58,32,97,114,114,97,121,32]++x2)++[32,111,102,32,105,110,116,91,48,46,46])++x3)++[93,59,32,112,117,98,108,105,99,32,103,117,101,115,115,58,32,97,114,114,97,121,32])++x4)++[32,111,102,32,105,110,116,91,48,46,46])++x5)++[93,59,32,118,97,114,32,105,58,32,105,110,116,91,48,46,46]).length+x6.length≤maxLen))=true then
            if (decide (((((((((([115,101,99,114,101,116,32,112,105,110,58,32,97,114,114,97,121,32]++x2)++[32,111,102,32,105,110,116,91,48,46,46])++x3)++[93,59,32,112,117,98,108,105,99,32,103,117,101,115,115,58,32,97,114,114,97,121,32])++x4)++[32,111,102,32,105,110,116,91,48,46,46])++x5)++[93,59,32,118,97,114,32,105,58,32,105,110,116,91,48,46,46])++x6).length+46≤maxLen))=true then
             Y2 a>>=fun x7=>
             if (decide ((((((((((([115,101,99,114,101,116,32,112,105,110,58,32,97,114,114,97,121,32]++x2)++[32,111,102,32,105,110,116,91,48,46,46])++x3)++[93,59,32,112,117,98,108,105,99,32,103,117,101,115,115,58,32,97,114,114,97,121,32])++x4)++[32,111,102,32,105,110,116,91,48,46,46])++x5)++[93,59,32,118,97,114,32,105,58,32,105,110,116,91,48,46,46])++x6)++[93,59,32,118,97,114,32,111,107,58,32,98,111,111,108,32,61,32,116,114,117,101,59,32,98,101,103,105,110,32,119,104,105,108,101,32,111,107,32,38,38,32,105,32,60,32]).length+x7.length≤maxLen))=true then
              if (decide (((((((((((([115,101,99,114,101,116,32,112,105,110,58,32,97,114,114,97,121,32]++x2)++[32,111,102,32,105,110,116,91,48,46,46])++x3)++[93,59,32,112,117,98,108,105,99,32,103,117,101,115,115,58,32,97,114,114,97,121,32])++x4)++[32,111,102,32,105,110,116,91,48,46,46])++x5)++[93,59,32,118,97,114,32,105,58,32,105,110,116,91,48,46,46])++x6)++[93,59,32,118,97,114,32,111,107,58,32,98,111,111,108,32,61,32,116,114,117,101,59,32,98,101,103,105,110,32,119,104,105,108,101,32,111,107,32,38,38,32,105,32,60,32])++x7).length+7≤maxLen))=true then
               Y2 a>>=fun x8=>
               if (decide ((((((((((((([115,101,99,114,101,116,32,112,105,110,58,32,97,114,114,97,121,32]++x2)++[32,111,102,32,105,110,116,91,48,46,46])++x3)++[93,59,32,112,117,98,108,105,99,32,103,117,101,115,115,58,32,97,114,114,97,121,32])++x4)++[32,111,102,32,105,110,116,91,48,46,46])++x5)++[93,59,32,118,97,114,32,105,58,32,105,110,116,91,48,46,46])++x6)++[93,59,32,118,97,114,32,111,107,58,32,98,111,111,108,32,61,32,116,114,117,101,59,32,98,101,103,105,110,32,119,104,105,108,101,32,111,107,32,38,38,32,105,32,60,32])++x7)++[32,108,105,109,105,116,32]).length+x8.length≤maxLen))=true then
                if (decide (((((((((((((([115,101,99,114,101,116,32,112,105,110,58,32,97,114,114,97,121,32]++x2)++[32,111,102,32,105,110,116,91,48,46,46])++x3)++[93,59,32,112,117,98,108,105,99,32,103,117,101,115,115,58,32,97,114,114,97,121,32])++x4)++[32,111,102,32,105,110,116,91,48,46,46])++x5)++[93,59,32,118,97,114,32,105,58,32,105,110,116,91,48,46,46])++x6)++[93,59,32,118,97,114,32,111,107,58,32,98,111,111,108,32,61,32,116,114,117,101,59,32,98,101,103,105,110,32,119,104,105,108,101,32,111,107,32,38,38,32,105,32,60,32])++x7)++[32,108,105,109,105,116,32])++x8).length+77≤maxLen))=true then
                 some (((((((((((((([115,101,99,114,101,116,32,112,105,110,58,32,97,114,114,97,121,32]++x2)++[32,111,102,32,105,110,116,91,48,46,46])++x3)++[93,59,32,112,117,98,108,105,99,32,103,117,101,115,115,58,32,97,114,114,97,121,32])++x4)++[32,111,102,32,105,110,116,91,48,46,46])++x5)++[93,59,32,118,97,114,32,105,58,32,105,110,116,91,48,46,46])++x6)++[93,59,32,118,97,114,32,111,107,58,32,98,111,111,108,32,61,32,116,114,117,101,59,32,98,101,103,105,110,32,119,104,105,108,101,32,111,107,32,38,38,32,105,32,60,32])++x7)++[32,108,105,109,105,116,32])++x8)++[32,123,32,105,102,32,112,105,110,91,105,93,32,61,61,32,103,117,101,115,115,91,105,93,32,123,32,105,32,61,32,105,32,43,32,49,59,32,125,32,101,108,115,101,32,123,32,111,107,32,61,32,102,97,108,115,101,59,32,125,32,125,32,111,117,116,112,117,116,32,111,107,59,32,101,110,100])
                else none
               else none
              else none
             else none
            else none
           else none
          else none
         else none
        else none
       else none
      else none
     else none
    else none
   else none
  else
   if (family == [98,105,116,115])=true then
    Y2 a>>=fun x9=>
    if (decide (16+x9.length≤maxLen))=true then
     if (decide (([115,101,99,114,101,116,32,115,58,32,97,114,114,97,121,32]++x9).length+29≤maxLen))=true then
      if (decide ((([115,101,99,114,101,116,32,115,58,32,97,114,114,97,121,32]++x9)++[32,111,102,32,98,111,111,108,59,32,98,101,103,105,110,32,102,111,114,32,105,32,61,32,48,32,116,111,32]).length+x1.length≤maxLen))=true then
       if (decide (((([115,101,99,114,101,116,32,115,58,32,97,114,114,97,121,32]++x9)++[32,111,102,32,98,111,111,108,59,32,98,101,103,105,110,32,102,111,114,32,105,32,61,32,48,32,116,111,32])++x1).length+21≤maxLen))=true then
        some (((([115,101,99,114,101,116,32,115,58,32,97,114,114,97,121,32]++x9)++[32,111,102,32,98,111,111,108,59,32,98,101,103,105,110,32,102,111,114,32,105,32,61,32,48,32,116,111,32])++x1)++[32,123,32,111,117,116,112,117,116,32,115,91,105,93,59,32,125,32,101,110,100])
       else none
      else none
     else none
    else none
   else
    if (family == [112,97,114,105,116,121])=true then
     if (decide (17+x1.length≤maxLen))=true then
      if (decide (([115,101,99,114,101,116,32,115,58,32,105,110,116,91,48,46,46]++x1).length+26≤maxLen))=true then
       some (([115,101,99,114,101,116,32,115,58,32,105,110,116,91,48,46,46]++x1)++[93,59,32,98,101,103,105,110,32,111,117,116,112,117,116,32,115,32,37,32,50,59,32,101,110,100])
      else none
     else none
    else
     if (family == [100,105,99,101])=true then
      Y2 a>>=fun x10=>
      if (decide (16+x10.length≤maxLen))=true then
       if (decide (([115,101,99,114,101,116,32,100,58,32,97,114,114,97,121,32]++x10).length+11≤maxLen))=true then
        Y2 b>>=fun x11=>
        if (decide ((([115,101,99,114,101,116,32,100,58,32,97,114,114,97,121,32]++x10)++[32,111,102,32,105,110,116,91,49,46,46]).length+x11.length≤maxLen))=true then
         if (decide (((([115,101,99,114,101,116,32,100,58,32,97,114,114,97,121,32]++x10)++[32,111,102,32,105,110,116,91,49,46,46])++x11).length+17≤maxLen))=true then
          Y2 (IntKind.i64.wrap (a * b))>>=fun x12=>
          if (decide ((((([115,101,99,114,101,116,32,100,58,32,97,114,114,97,121,32]++x10)++[32,111,102,32,105,110,116,91,49,46,46])++x11)++[93,59,32,118,97,114,32,116,58,32,105,110,116,91,48,46,46]).length+x12.length≤maxLen))=true then
           if (decide (((((([115,101,99,114,101,116,32,100,58,32,97,114,114,97,121,32]++x10)++[32,111,102,32,105,110,116,91,49,46,46])++x11)++[93,59,32,118,97,114,32,116,58,32,105,110,116,91,48,46,46])++x12).length+22≤maxLen))=true then
            if (decide ((((((([115,101,99,114,101,116,32,100,58,32,97,114,114,97,121,32]++x10)++[32,111,102,32,105,110,116,91,49,46,46])++x11)++[93,59,32,118,97,114,32,116,58,32,105,110,116,91,48,46,46])++x12)++[93,59,32,98,101,103,105,110,32,102,111,114,32,105,32,61,32,48,32,116,111,32]).length+x1.length≤maxLen))=true then
             if (decide (((((((([115,101,99,114,101,116,32,100,58,32,97,114,114,97,121,32]++x10)++[32,111,102,32,105,110,116,91,49,46,46])++x11)++[93,59,32,118,97,114,32,116,58,32,105,110,116,91,48,46,46])++x12)++[93,59,32,98,101,103,105,110,32,102,111,114,32,105,32,61,32,48,32,116,111,32])++x1).length+32≤maxLen))=true then
              some (((((((([115,101,99,114,101,116,32,100,58,32,97,114,114,97,121,32]++x10)++[32,111,102,32,105,110,116,91,49,46,46])++x11)++[93,59,32,118,97,114,32,116,58,32,105,110,116,91,48,46,46])++x12)++[93,59,32,98,101,103,105,110,32,102,111,114,32,105,32,61,32,48,32,116,111,32])++x1)++[32,123,32,116,32,61,32,116,32,43,32,100,91,105,93,59,32,125,32,111,117,116,112,117,116,32,116,59,32,101,110,100])
             else none
            else none
           else none
          else none
         else none
        else none
       else none
      else none
     else
      if (family == [112,111,119,101,114])=true then
       Y2 a>>=fun x13=>
       if (decide (16+x13.length≤maxLen))=true then
        if (decide (([115,101,99,114,101,116,32,101,58,32,97,114,114,97,121,32]++x13).length+52≤maxLen))=true then
         if (decide ((([115,101,99,114,101,116,32,101,58,32,97,114,114,97,121,32]++x13)++[32,111,102,32,98,111,111,108,59,32,118,97,114,32,120,58,32,105,110,116,91,48,46,46,49,50,93,32,61,32,49,59,32,98,101,103,105,110,32,102,111,114,32,105,32,61,32,48,32,116,111,32]).length+x1.length≤maxLen))=true then
          if (decide (((([115,101,99,114,101,116,32,101,58,32,97,114,114,97,121,32]++x13)++[32,111,102,32,98,111,111,108,59,32,118,97,114,32,120,58,32,105,110,116,91,48,46,46,49,50,93,32,61,32,49,59,32,98,101,103,105,110,32,102,111,114,32,105,32,61,32,48,32,116,111,32])++x1).length+52≤maxLen))=true then
           some (((([115,101,99,114,101,116,32,101,58,32,97,114,114,97,121,32]++x13)++[32,111,102,32,98,111,111,108,59,32,118,97,114,32,120,58,32,105,110,116,91,48,46,46,49,50,93,32,61,32,49,59,32,98,101,103,105,110,32,102,111,114,32,105,32,61,32,48,32,116,111,32])++x1)++[32,123,32,120,32,61,32,120,32,42,32,120,32,37,32,49,51,59,32,105,102,32,101,91,105,93,32,123,32,120,32,61,32,120,32,42,32,50,32,37,32,49,51,59,32,125,32,125,32,101,110,100])
          else none
         else none
        else none
       else none
      else
       if (family == [116,104,114,101,115,104,111,108,100])=true then
        if (decide (17+x1.length≤maxLen))=true then
         if (decide (([115,101,99,114,101,116,32,115,58,32,105,110,116,91,48,46,46]++x1).length+21≤maxLen))=true then
          Y2 b>>=fun x14=>
          if (decide ((([115,101,99,114,101,116,32,115,58,32,105,110,116,91,48,46,46]++x1)++[93,59,32,98,101,103,105,110,32,111,117,116,112,117,116,32,115,32,62,61,32]).length+x14.length≤maxLen))=true then
           if (decide (((([115,101,99,114,101,116,32,115,58,32,105,110,116,91,48,46,46]++x1)++[93,59,32,98,101,103,105,110,32,111,117,116,112,117,116,32,115,32,62,61,32])++x14).length+5≤maxLen))=true then
            some (((([115,101,99,114,101,116,32,115,58,32,105,110,116,91,48,46,46]++x1)++[93,59,32,98,101,103,105,110,32,111,117,116,112,117,116,32,115,32,62,61,32])++x14)++[59,32,101,110,100])
           else none
          else none
         else none
        else none
       else
        if (family == [109,97,115,107,101,100])=true then
         if (decide (17+x1.length≤maxLen))=true then
          if (decide (([115,101,99,114,101,116,32,115,58,32,105,110,116,91,48,46,46]++x1).length+20≤maxLen))=true then
           if (decide ((([115,101,99,114,101,116,32,115,58,32,105,110,116,91,48,46,46]++x1)++[93,59,32,114,97,110,100,111,109,32,114,58,32,105,110,116,91,48,46,46]).length+x1.length≤maxLen))=true then
            if (decide (((([115,101,99,114,101,116,32,115,58,32,105,110,116,91,48,46,46]++x1)++[93,59,32,114,97,110,100,111,109,32,114,58,32,105,110,116,91,48,46,46])++x1).length+26≤maxLen))=true then
             Y2 a>>=fun x15=>
             if (decide ((((([115,101,99,114,101,116,32,115,58,32,105,110,116,91,48,46,46]++x1)++[93,59,32,114,97,110,100,111,109,32,114,58,32,105,110,116,91,48,46,46])++x1)++[93,59,32,98,101,103,105,110,32,111,117,116,112,117,116,32,40,115,32,43,32,114,41,32,37,32]).length+x15.length≤maxLen))=true then
              if (decide (((((([115,101,99,114,101,116,32,115,58,32,105,110,116,91,48,46,46]++x1)++[93,59,32,114,97,110,100,111,109,32,114,58,32,105,110,116,91,48,46,46])++x1)++[93,59,32,98,101,103,105,110,32,111,117,116,112,117,116,32,40,115,32,43,32,114,41,32,37,32])++x15).length+5≤maxLen))=true then
               some (((((([115,101,99,114,101,116,32,115,58,32,105,110,116,91,48,46,46]++x1)++[93,59,32,114,97,110,100,111,109,32,114,58,32,105,110,116,91,48,46,46])++x1)++[93,59,32,98,101,103,105,110,32,111,117,116,112,117,116,32,40,115,32,43,32,114,41,32,37,32])++x15)++[59,32,101,110,100])
              else none
             else none
            else none
           else none
          else none
         else none
        else
         Qd a b x1 [] 1
theorem G1i {family a b res}(c:A4 family a b=some res):L0 C 25 [.d (.str family),.d (.int .i64 a),.d (.int .i64 b)] [] (Ret [] (.d (.str res))):=by
 unfold A4 at c
 obtain ⟨x1,a9,c⟩:=bs' c
 refine L0.intro hC Tryz.func25 R R R (t' R (p' 2 R (cq (D4 a9) R (e' R (S' (t' R (bk' (t' R (ci' R c (fun c=>?_) (fun c=>?_))))))))))
 ·obtain ⟨f,c⟩:=Z0 c
  obtain ⟨M,c⟩:=Z0 c
  obtain ⟨E,c⟩:=Z0 c
  obtain ⟨v,c⟩:=Z0 c
  cases c
  exact p' 1 R (qc' R f (qc' R M (q' R (qc' R E (qc' R v (e' R (re' (rq R))))))))
 refine t' R (ci' R c (fun c=>?_) (fun c=>?_))
 ·obtain ⟨x2,a8,c⟩:=bs' c
  obtain ⟨m,c⟩:=Z0 c
  obtain ⟨n,c⟩:=Z0 c
  obtain ⟨x3,b2,c⟩:=bs' c
  obtain ⟨Z,c⟩:=Z0 c
  obtain ⟨Y,c⟩:=Z0 c
  obtain ⟨x4,b4,c⟩:=bs' c
  obtain ⟨w,c⟩:=Z0 c
  obtain ⟨a4,c⟩:=Z0 c
  obtain ⟨x5,a6,c⟩:=bs' c
  obtain ⟨U,c⟩:=Z0 c
  obtain ⟨p,c⟩:=Z0 c
  obtain ⟨x6,b1,c⟩:=bs' c
  obtain ⟨q,c⟩:=Z0 c
  obtain ⟨N,c⟩:=Z0 c
  obtain ⟨x7,a7,c⟩:=bs' c
  obtain ⟨x,c⟩:=Z0 c
  obtain ⟨I,c⟩:=Z0 c
  obtain ⟨x8,b0,c⟩:=bs' c
  obtain ⟨P,c⟩:=Z0 c
  obtain ⟨a3,c⟩:=Z0 c
  cases c
  refine p' 1 R (cq (D4 a8) R (qc' R m (qc' R n (o' 2 R (cq (D4 b2) R (qc' R Z (qc' R Y (q' R (cq (D4 b4) R (qc' R w (qc' R a4 (o' 2 R (cq (D4 a6) R ?_)))))))))))))
  refine qc' R U (qc' R p (q' R (cq (D4 b1) R (qc' R q (qc' R N (q' R (cq (D4 a7) R (qc' R x (qc' R I (q' R (cq (D4 b0) R (qc' R P (qc' R a3 ?_)))))))))))))
  exact e' R (re' (rq R))
 refine t' R (ci' R c (fun c=>?_) (fun c=>?_))
 ·obtain ⟨x9,b3,c⟩:=bs' c
  obtain ⟨S,c⟩:=Z0 c
  obtain ⟨a0,c⟩:=Z0 c
  obtain ⟨L,c⟩:=Z0 c
  obtain ⟨g,c⟩:=Z0 c
  cases c
  exact p' 1 R (cq (D4 b3) R (qc' R S (qc' R a0 (q' R (qc' R L (qc' R g (e' R (re' (rq R)))))))))
 refine t' R (ci' R c (fun c=>?_) (fun c=>?_))
 ·obtain ⟨r,c⟩:=Z0 c
  obtain ⟨K,c⟩:=Z0 c
  cases c
  exact p' 1 R (qc' R r (qc' R K (e' R (re' (rq R)))))
 refine t' R (ci' R c (fun c=>?_) (fun c=>?_))
 ·obtain ⟨b8,V,c⟩:=bs' c
  obtain ⟨H,c⟩:=Z0 c
  obtain ⟨u,c⟩:=Z0 c
  obtain ⟨b7,D,c⟩:=bs' c
  obtain ⟨s,c⟩:=Z0 c
  obtain ⟨a1,c⟩:=Z0 c
  obtain ⟨b5,A,c⟩:=bs' c
  obtain ⟨t,c⟩:=Z0 c
  obtain ⟨z,c⟩:=Z0 c
  obtain ⟨e,c⟩:=Z0 c
  obtain ⟨J,c⟩:=Z0 c
  cases c
  refine p' 1 R (cq (D4 V) R (qc' R H (qc' R u (q' R (cq (D4 D) R (qc' R s (qc' R a1 (o' 3 R (cq (D4 A) R (qc' R t (qc' R z (q' R (qc' R e ?_)))))))))))))
  exact qc' R J (e' R (re' (rq R)))
 refine t' R (ci' R c (fun c=>?_) (fun c=>?_))
 ·obtain ⟨b6,l,c⟩:=bs' c
  obtain ⟨F,c⟩:=Z0 c
  obtain ⟨B,c⟩:=Z0 c
  obtain ⟨W,c⟩:=Z0 c
  obtain ⟨h,c⟩:=Z0 c
  cases c
  exact p' 1 R (cq (D4 l) R (qc' R F (qc' R B (q' R (qc' R W (qc' R h (e' R (re' (rq R)))))))))
 refine t' R (ci' R c (fun c=>?_) (fun c=>?_))
 ·obtain ⟨o,c⟩:=Z0 c
  obtain ⟨j,c⟩:=Z0 c
  obtain ⟨b9,y,c⟩:=bs' c
  obtain ⟨O,c⟩:=Z0 c
  obtain ⟨a2,c⟩:=Z0 c
  cases c
  exact p' 1 R (qc' R o (qc' R j (q' R (cq (D4 y) R (qc' R O (qc' R a2 (e' R (re' (rq R)))))))))
 refine t' R (ci' R c (fun c=>?_) (fun c=>?_))
 ·obtain ⟨T,c⟩:=Z0 c
  obtain ⟨i,c⟩:=Z0 c
  obtain ⟨a5,c⟩:=Z0 c
  obtain ⟨G,c⟩:=Z0 c
  obtain ⟨c0,X,c⟩:=bs' c
  obtain ⟨k,c⟩:=Z0 c
  obtain ⟨Q,c⟩:=Z0 c
  cases c
  exact p' 1 R (qc' R T (qc' R i (q' R (qc' R a5 (qc' R G (q' R (cq (D4 X) R (qc' R k (qc' R Q (e' R (re' (rq R))))))))))))
 exact sk' (t' R (S' (t' R (bk' (fq (P1b c) R)))))
mutual
def B7 (s:Str)(atV1:Int):Option Int:=
 if (decide (atV1 < ((s).length:Int)))=true then
  idx s atV1>>=fun x1=>
  if ((x1.toNat:Int) == 35)=true then
   Gc s atV1
  else
   idx s atV1>>=fun x2=>
   (if (!((x2.toNat:Int) == 32))=true then idx s atV1 else some default)>>=fun x3=>
   (if (!(bif ((x2.toNat:Int) == 32) then true else ((x3.toNat:Int) == 9)))=true then idx s atV1 else some default)>>=fun x4=>
   if (bif (bif ((x2.toNat:Int) == 32) then true else ((x3.toNat:Int) == 9)) then true else ((x4.toNat:Int) == 10))=true then
    B7 s (IntKind.i64.wrap (atV1+1))
   else
    some atV1
 else
  some atV1
 partial_fixpoint
def Gc (s:Str)(atV2:Int):Option Int:=
 (if (decide (atV2 < ((s).length:Int)))=true then idx s atV2 else some default)>>=fun x5=>
 if (bif (decide (atV2 < ((s).length:Int))) then ((x5.toNat:Int) != 10) else false)=true then
  Gc s (IntKind.i64.wrap (atV2+1))
 else
  B7 s atV2
 partial_fixpoint
end
abbrev Nx (s:Str)(atV1:Int)(res:Int):Prop:=LM C 45 0 Tryz.f71 [1,0,4] [(0,.d (.str s)),(1,.d (.int .i64 atV1))] [] (Ret [] (.d (.int .i64 res)))
abbrev Q1b (s:Str)(atV2:Int)(res:Int):Prop:=LM C 45 0 Tryz.f71 [1,0,4,5,1,4,1,2,4] [(0,.d (.str s)),(1,.d (.int .i64 atV2))] [] (Ret [] (.d (.int .i64 res)))
theorem W17 (s:Str):(∀ d b,B7 s d=some b→Nx s d b)∧(∀ c b,Gc s c=some b→Q1b s c b):=by
 refine B7.mutual_partial_correctness s _ _ ?_ ?_
 ·intro n m f g d b a
  refine Y0.unroll (S' (t' R (ci' R a (fun a=>?_) (fun a=>?_))))
  ·obtain ⟨x1,l,a⟩:=bs' a
   refine sk' (bk' (p' 2 R (x' R (D1 l) (X5 l) (e' R (ci' R a (fun a=>?_) (fun a=>?_))))))
   ·exact bk' (fq (g _ _ a) R)
   obtain ⟨x2,k,a⟩:=bs' a
   obtain ⟨q,i,a⟩:=bs' a
   obtain ⟨o,j,a⟩:=bs' a
   refine sg' 16 R (G' 2 R (AG.x hC R R (fun _=>trivial) (fun e=>⟨D1 k,X5 k⟩) (G' 4 R (AG.x hC R R (fun hg=>⟨hg,hg,trivial⟩) (fun e=>⟨D1 (G1 e i),X5 (G1 e i)⟩) (a1' R (po' R (G' 3 R (AG.x hC R R (fun hg=>⟨hg,hg,trivial⟩) (fun e=>⟨D1 (G1 e j),X5 (G1 e j)⟩) (a1' R (po' R (an' (n' (ci' R a (fun a=>?_) (fun a=>?_))))))))))))))
   ·exact T' R (lq (f _ _ a) R)
   cases a
   exact t' R (re' (rq R))
  cases a
  exact ex' (t' R (re' (rq R)))
 ·intro n m f g c b a
  obtain ⟨p,h,a⟩:=bs' a
  refine Y0.unroll (S' (sg' 10 R (G' 7 R (AG.x hC R R (fun hg=>⟨hg,hg,trivial⟩) (fun e=>⟨D1 (G1 e h),X5 (G1 e h)⟩) (a1' R (pa' R (an' (n' (ci' R a (fun a=>?_) (fun a=>?_))))))))))
  ·exact sk' (bk' (T' R (lq (g _ _ a) R)))
  exact ex' (lq (f _ _ a) R)
theorem Z19 {s atV1 res}(a:B7 s atV1=some res):Nx s atV1 res:=(W17 s).1 _ _ a
def Dl (s:Str)(atV:Int):Option Int:=
 B7 s atV
theorem W11 {s atV res}(a:Dl s atV=some res):L0 C 71 [.d (.str s),.d (.int .i64 atV)] [] (Ret [] (.d (.int .i64 res))):=by
 unfold Dl at a
 exact L0.intro hC Tryz.func71 R R R (t' R (S' (bk' (fq (Z19 a) R))))
def Vg (c:Int):Option Bool:=
 some (bif (decide (c≥97)) then (decide (c≤122)) else false)
theorem Ql {c res}(a:Vg c=some res):L0 C 108 [.d (.int .u8 c)] [] (Ret [] (.d (.bool res))):=by
 unfold Vg at a
 cases a
 exact L0.intro hC Tryz.func108 R R R (t' R (sg' 7 R (G' 4 R (a1' R (pa' R (a0' R (an' (n' (re' (rq R))))))))))
def El (c:Int):Option Bool:=
 some (bif (decide (c≥48)) then (decide (c≤57)) else false)
theorem Es {c res}(a:El c=some res):L0 C 110 [.d (.int .u8 c)] [] (Ret [] (.d (.bool res))):=by
 unfold El at a
 cases a
 exact L0.intro hC Tryz.func110 R R R (t' R (sg' 7 R (G' 4 R (a1' R (pa' R (a0' R (an' (n' (re' (rq R))))))))))
def Af (s:Str)(atV1:Int):Option Int:=
 (if (decide (atV1 < ((s).length:Int)))=true then idx s atV1 else some default)>>=fun x1=>
 (if (decide (atV1 < ((s).length:Int)))=true then Vg (x1.toNat:Int) else some default)>>=fun x2=>
 (if ((decide (atV1 < ((s).length:Int)))&&(!x2))=true then idx s atV1 else some default)>>=fun x3=>
 (if ((decide (atV1 < ((s).length:Int)))&&(!x2))=true then El (x3.toNat:Int) else some default)>>=fun x4=>
 if (bif (decide (atV1 < ((s).length:Int))) then (bif x2 then true else x4) else false)=true then
  Af s (IntKind.i64.wrap (atV1+1))
 else
  some atV1
 partial_fixpoint
abbrev X11 (s:Str)(atV1:Int)(res:Int):Prop:=LM C 24 0 Tryz.f107 [1,0,4] [(0,.d (.str s)),(1,.d (.int .i64 atV1))] [] (Ret [] (.d (.int .i64 res)))
theorem R1b (s:Str):(∀ b e,Af s b=some e→X11 s b e):=by
 refine Af.partial_correctness s _ ?_
 ·intro m j b e a
  obtain ⟨x1,f,a⟩:=bs' a
  obtain ⟨x2,h,a⟩:=bs' a
  obtain ⟨l,g,a⟩:=bs' a
  obtain ⟨k,i,a⟩:=bs' a
  refine Y0.unroll (S' (sg' 16 R (G' 7 R (AG.x hC R R (fun hg=>⟨hg,hg,trivial⟩) (fun d=>⟨D1 (G1 d f),X5 (G1 d f)⟩) (AG.c R R (fun hg=>⟨hg,trivial⟩) (fun d=>Ql (G1 d h)) (a1' R (G' 2 R (AG.x hC R R (fun hg=>⟨hg,hg,trivial⟩) (fun d=>⟨D1 (G1 d g),X5 (G1 d g)⟩) ?_))))))))
  refine AG.c R R (fun hg=>⟨hg,trivial⟩) (fun d=>Es (G1 d i)) (pO' R (pa' R (an' (n' (ci' R a (fun a=>?_) (fun a=>?_))))))
  ·exact sk' (bk' (T' R (lq (j _ _ a) R)))
  cases a
  exact ex' (t' R (re' (rq R)))
theorem W1d {s atV1 res}(a:Af s atV1=some res):X11 s atV1 res:=(R1b s) _ _ a
def Lm (s:Str)(atV:Int):Option Int:=
 Af s atV
theorem X17 {s atV res}(a:Lm s atV=some res):L0 C 107 [.d (.str s),.d (.int .i64 atV)] [] (Ret [] (.d (.int .i64 res))):=by
 unfold Lm at a
 exact L0.intro hC Tryz.func107 R R R (t' R (S' (bk' (fq (W1d a) R))))
def K8 (s:Str)(i1:Int):Option Bool:=
 if (decide ((IntKind.i64.wrap ((IntKind.i64.wrap (i1+((s).length:Int)))+2))≤162))=true then
  slc [32,116,121,112,101,32,115,101,99,114,101,116,32,112,117,98,108,105,99,32,114,97,110,100,111,109,32,118,97,114,32,104,97,116,99,104,32,102,117,110,99,32,114,101,116,117,114,110,32,98,101,103,105,110,32,101,110,100,32,98,111,111,108,32,105,110,116,32,97,114,114,97,121,32,111,102,32,114,101,99,111,114,100,32,116,114,117,101,32,102,97,108,115,101,32,99,97,108,108,32,114,101,108,101,97,115,101,32,111,117,116,112,117,116,32,119,97,105,116,32,105,102,32,101,108,115,101,32,119,104,105,108,101,32,108,105,109,105,116,32,102,111,114,32,116,111,32,115,101,116,116,108,101,32,109,105,110,32,109,97,120,32] i1 (IntKind.i64.wrap ((IntKind.i64.wrap (i1+((s).length:Int)))+2))>>=fun x3=>
  if (decide (1+s.length≤maxLen))=true then
   if (decide (([32]++s).length+1≤maxLen))=true then
    if (x3 == (([32]++s)++[32]))=true then
     some true
    else
     K8 s (IntKind.i64.wrap (i1+1))
   else none
  else none
 else
  some false
 partial_fixpoint
abbrev Er (s:Str)(i1:Int)(res:Bool):Prop:=LM C 38 0 Tryz.f109 [1,1,1,0,1,4] [(0,.d (.str s)),(4,.d (.int .i64 i1))] [] (Ret [] (.d (.bool res)))
theorem Y11 (s:Str):(∀ c b,K8 s c=some b→Er s c b):=by
 refine K8.partial_correctness s _ ?_
 ·intro i d c b a
  refine Y0.unroll (S' (t' R (ci' R a (fun a=>?_) (fun a=>?_))))
  ·obtain ⟨h,e,a⟩:=bs' a
   obtain ⟨g,a⟩:=Z0 a
   obtain ⟨f,a⟩:=Z0 a
   refine sk' (S' (bk' (p' 6 R (E0.lx hC R e (q' R (qc' R g (qc' R f (e' R (ci' R a (fun a=>?_) (fun a=>?_))))))))))
   ·cases a
    exact t' R (re' (rq R))
   exact sk' (T' R (lq (d _ _ a) R))
  cases a
  exact ex' (t' R (re' (rq R)))
theorem R13 {s i1 res}(a:K8 s i1=some res):Er s i1 res:=(Y11 s) _ _ a
def L8 (s:Str)(i:Int):Option Bool:=
 if (decide (i < ((s).length:Int)))=true then
  idx s i>>=fun x1=>
  Vg (x1.toNat:Int)>>=fun x2=>
  if (!x2)=true then
   some false
  else
   L8 s (IntKind.i64.wrap (i+1))
 else
  K8 s 0
 partial_fixpoint
abbrev Gr (s:Str)(i:Int)(res:Bool):Prop:=LM C 38 0 Tryz.f109 [1,1,0,1,4] [(0,.d (.str s)),(3,.d (.int .i64 i))] [] (Ret [] (.d (.bool res)))
theorem Z11 (s:Str):(∀ i b,L8 s i=some b→Gr s i b):=by
 refine L8.partial_correctness s _ ?_
 ·intro f e i b a
  refine Y0.unroll (S' (t' R (ci' R a (fun a=>?_) (fun a=>?_))))
  ·obtain ⟨x1,c,a⟩:=bs' a
   obtain ⟨x2,d,a⟩:=bs' a
   refine sk' (S' (bk' (p' 2 R (x' R (D1 c) (X5 c) (cq (Ql d) R (e' R (ci' R a (fun a=>?_) (fun a=>?_))))))))
   ·cases a
    exact t' R (re' (rq R))
   exact sk' (T' R (lq (e _ _ a) R))
  exact ex' (S' (t' R (bk' (fq (R13 a) R))))
theorem S13 {s i res}(a:L8 s i=some res):Gr s i res:=(Z11 s) _ _ a
def Ng (s:Str):Option Bool:=
 if (((s).length:Int) == 0)=true then
  some false
 else
  L8 s 0
theorem Zu {s res}(a:Ng s=some res):L0 C 109 [.d (.str s)] [] (Ret [] (.d (.bool res))):=by
 unfold Ng at a
 refine L0.intro hC Tryz.func109 R R R (t' R (S' (t' R (ci' R a (fun a=>?_) (fun a=>?_)))))
 ·cases a
  exact t' R (re' (rq R))
 exact sk' (S' (t' R (bk' (fq (S13 a) R))))
def D7 (s:Str)(n:Int)(i1:Int):Option Int:=
 if (decide (i1 < ((s).length:Int)))=true then
  idx s i1>>=fun x4=>
  if (decide ((IntKind.i64.wrap ((IntKind.i64.wrap (n * 10))+(IntKind.i64.wrap (IntKind.u8.wrap ((x4.toNat:Int) - 48))))) > 1048576))=true then
   some 3
  else
   D7 s (IntKind.i64.wrap ((IntKind.i64.wrap (n * 10))+(IntKind.i64.wrap (IntKind.u8.wrap ((x4.toNat:Int) - 48))))) (IntKind.i64.wrap (i1+1))
 else
  some 0
 partial_fixpoint
abbrev Av (s:Str)(n:Int)(i1:Int)(res:Int):Prop:=LM C 41 0 Tryz.f111 [1,1,1,1,0,1,4] [(0,.d (.str s)),(3,.d (.int .i64 n)),(5,.d (.int .i64 i1))] [] (Ret [] (.d (.int .i64 res)))
theorem F16 (s:Str):(∀ n d b,D7 s n d=some b→Av s n d b):=by
 refine D7.partial_correctness s _ ?_
 ·intro g e n d b a
  refine Y0.unroll (S' (t' R (ci' R a (fun a=>?_) (fun a=>?_))))
  ·obtain ⟨f,c,a⟩:=bs' a
   refine sk' (S' (bk' (p' 4 R (x' R (D1 c) (X5 c) (e' R (t' R (ci' R a (fun a=>?_) (fun a=>?_))))))))
   ·cases a
    exact t' R (re' (rq R))
   exact sk' (T' R (lq (e _ _ _ a) R))
  cases a
  exact ex' (t' R (re' (rq R)))
theorem Y17 {s n i1 res}(a:D7 s n i1=some res):Av s n i1 res:=(F16 s) _ _ _ a
def Oa (s:Str)(i:Int):Option Int:=
 if (decide (i < ((s).length:Int)))=true then
  idx s i>>=fun x2=>
  El (x2.toNat:Int)>>=fun x3=>
  if (!x3)=true then
   some 6
  else
   Oa s (IntKind.i64.wrap (i+1))
 else
  D7 s 0 0
 partial_fixpoint
abbrev Bv (s:Str)(i:Int)(res:Int):Prop:=LM C 41 0 Tryz.f111 [1,1,1,0,1,4] [(0,.d (.str s)),(3,.d (.int .i64 0)),(4,.d (.int .i64 i))] [] (Ret [] (.d (.int .i64 res)))
theorem G16 (s:Str):(∀ i b,Oa s i=some b→Bv s i b):=by
 refine Oa.partial_correctness s _ ?_
 ·intro g d i b a
  refine Y0.unroll (S' (t' R (ci' R a (fun a=>?_) (fun a=>?_))))
  ·obtain ⟨x2,c,a⟩:=bs' a
   obtain ⟨f,e,a⟩:=bs' a
   refine sk' (S' (bk' (p' 2 R (x' R (D1 c) (X5 c) (cq (Es e) R (e' R (ci' R a (fun a=>?_) (fun a=>?_))))))))
   ·cases a
    exact t' R (re' (rq R))
   exact sk' (T' R (lq (d _ _ a) R))
  exact ex' (S' (t' R (bk' (fq (Y17 a) R))))
theorem Z17 {s i res}(a:Oa s i=some res):Bv s i res:=(G16 s) _ _ a
def Mm (s:Str):Option Int:=
 (if (decide (((s).length:Int) > 1))=true then idx s 0 else some default)>>=fun x1=>
 if (bif (decide (((s).length:Int) > 1)) then ((x1.toNat:Int) == 48) else false)=true then
  some 6
 else
  Oa s 0
theorem X1d {s res}(a:Mm s=some res):L0 C 111 [.d (.str s)] [] (Ret [] (.d (.int .i64 res))):=by
 unfold Mm at a
 obtain ⟨x1,b,a⟩:=bs' a
 refine L0.intro hC Tryz.func111 R R R (t' R (S' (sg' 8 R (G' 5 R (AG.x hC R R (fun hg=>⟨hg,trivial⟩) (fun c=>⟨D1 (G1 c b),X5 (G1 c b)⟩) (a1' R (pa' R (an' (n' (ci' R a (fun a=>?_) (fun a=>?_)))))))))))
 ·cases a
  exact t' R (re' (rq R))
 exact sk' (t' R (S' (t' R (bk' (fq (Z17 a) R)))))
def E7 (s:Str)(v4:Bool):Option Bool:=
 if v4=true then
  some true
 else
  if (s == [59])=true then
   if (s == [59])=true then
    some true
   else
    some false
  else
   if (s == [58])=true then
    if (s == [58])=true then
     some true
    else
     some false
   else
    if (s == [44])=true then
     if (s == [44])=true then
      some true
     else
      some false
    else
     if (s == [46])=true then
      if (s == [46])=true then
       some true
      else
       some false
     else
      if (s == [61])=true then
       if (s == [61])=true then
        some true
       else
        some false
      else
       if (s == [43])=true then
        if (s == [43])=true then
         some true
        else
         some false
       else
        if (s == [45])=true then
         if (s == [45])=true then
          some true
         else
          some false
        else
         if (s == [42])=true then
          if (s == [42])=true then
           some true
          else
           some false
         else
          if (s == [47])=true then
           if (s == [47])=true then
            some true
           else
            some false
          else
           if (s == [37])=true then
            if (s == [37])=true then
             some true
            else
             some false
           else
            if (s == [60])=true then
             if (s == [60])=true then
              some true
             else
              some false
            else
             if (s == [62])=true then
              if (s == [62])=true then
               some true
              else
               some false
             else
              if (s == [33])=true then
               if (s == [33])=true then
                some true
               else
                some false
              else
               if (s == [63])=true then
                if (s == [63])=true then
                 some true
                else
                 some false
               else
                if (s == [40])=true then
                 if (s == [40])=true then
                  some true
                 else
                  some false
                else
                 if (s == [41])=true then
                  if (s == [41])=true then
                   some true
                  else
                   some false
                 else
                  if (s == [91])=true then
                   if (s == [91])=true then
                    some true
                   else
                    some false
                  else
                   if (s == [93])=true then
                    if (s == [93])=true then
                     some true
                    else
                     some false
                   else
                    if (s == [123])=true then
                     if (s == [123])=true then
                      some true
                     else
                      some false
                    else
                     if (s == [125])=true then
                      some true
                     else
                      some false
theorem N9 {s v4 res}(a:E7 s v4=some res):JM C 33 0 Tryz.f112 [1,0,1,4,1] [(3,.d (.str s)),(4,.d (.bool v4))] [] (Ret [] (.d (.bool res))):=by
 unfold E7 at a
 refine ci' R a (fun a=>?_) (fun a=>?_)
 ·cases a
  exact t' R (re' (rq R))
 refine S' (t' R (ci' R a (fun a=>?_) (fun a=>?_)))
 ·refine sk' (ci' R a (fun a=>?_) (fun a=>?_))
  ·cases a
   exact t' R (re' (rq R))
  cases a
  exact sk' (t' R (re' (rq R)))
 refine t' R (ci' R a (fun a=>?_) (fun a=>?_))
 ·refine sk' (ci' R a (fun a=>?_) (fun a=>?_))
  ·cases a
   exact t' R (re' (rq R))
  cases a
  exact sk' (t' R (re' (rq R)))
 refine t' R (ci' R a (fun a=>?_) (fun a=>?_))
 ·refine sk' (ci' R a (fun a=>?_) (fun a=>?_))
  ·cases a
   exact t' R (re' (rq R))
  cases a
  exact sk' (t' R (re' (rq R)))
 refine t' R (ci' R a (fun a=>?_) (fun a=>?_))
 ·refine sk' (ci' R a (fun a=>?_) (fun a=>?_))
  ·cases a
   exact t' R (re' (rq R))
  cases a
  exact sk' (t' R (re' (rq R)))
 refine t' R (ci' R a (fun a=>?_) (fun a=>?_))
 ·refine sk' (ci' R a (fun a=>?_) (fun a=>?_))
  ·cases a
   exact t' R (re' (rq R))
  cases a
  exact sk' (t' R (re' (rq R)))
 refine t' R (ci' R a (fun a=>?_) (fun a=>?_))
 ·refine sk' (ci' R a (fun a=>?_) (fun a=>?_))
  ·cases a
   exact t' R (re' (rq R))
  cases a
  exact sk' (t' R (re' (rq R)))
 refine t' R (ci' R a (fun a=>?_) (fun a=>?_))
 ·refine sk' (ci' R a (fun a=>?_) (fun a=>?_))
  ·cases a
   exact t' R (re' (rq R))
  cases a
  exact sk' (t' R (re' (rq R)))
 refine t' R (ci' R a (fun a=>?_) (fun a=>?_))
 ·refine sk' (ci' R a (fun a=>?_) (fun a=>?_))
  ·cases a
   exact t' R (re' (rq R))
  cases a
  exact sk' (t' R (re' (rq R)))
 refine t' R (ci' R a (fun a=>?_) (fun a=>?_))
 ·refine sk' (ci' R a (fun a=>?_) (fun a=>?_))
  ·cases a
   exact t' R (re' (rq R))
  cases a
  exact sk' (t' R (re' (rq R)))
 refine t' R (ci' R a (fun a=>?_) (fun a=>?_))
 ·refine sk' (ci' R a (fun a=>?_) (fun a=>?_))
  ·cases a
   exact t' R (re' (rq R))
  cases a
  exact sk' (t' R (re' (rq R)))
 refine t' R (ci' R a (fun a=>?_) (fun a=>?_))
 ·refine sk' (ci' R a (fun a=>?_) (fun a=>?_))
  ·cases a
   exact t' R (re' (rq R))
  cases a
  exact sk' (t' R (re' (rq R)))
 refine t' R (ci' R a (fun a=>?_) (fun a=>?_))
 ·refine sk' (ci' R a (fun a=>?_) (fun a=>?_))
  ·cases a
   exact t' R (re' (rq R))
  cases a
  exact sk' (t' R (re' (rq R)))
 refine t' R (ci' R a (fun a=>?_) (fun a=>?_))
 ·refine sk' (ci' R a (fun a=>?_) (fun a=>?_))
  ·cases a
   exact t' R (re' (rq R))
  cases a
  exact sk' (t' R (re' (rq R)))
 refine t' R (ci' R a (fun a=>?_) (fun a=>?_))
 ·refine sk' (ci' R a (fun a=>?_) (fun a=>?_))
  ·cases a
   exact t' R (re' (rq R))
  cases a
  exact sk' (t' R (re' (rq R)))
 refine t' R (ci' R a (fun a=>?_) (fun a=>?_))
 ·refine sk' (ci' R a (fun a=>?_) (fun a=>?_))
  ·cases a
   exact t' R (re' (rq R))
  cases a
  exact sk' (t' R (re' (rq R)))
 refine t' R (ci' R a (fun a=>?_) (fun a=>?_))
 ·refine sk' (ci' R a (fun a=>?_) (fun a=>?_))
  ·cases a
   exact t' R (re' (rq R))
  cases a
  exact sk' (t' R (re' (rq R)))
 refine t' R (ci' R a (fun a=>?_) (fun a=>?_))
 ·refine sk' (ci' R a (fun a=>?_) (fun a=>?_))
  ·cases a
   exact t' R (re' (rq R))
  cases a
  exact sk' (t' R (re' (rq R)))
 refine t' R (ci' R a (fun a=>?_) (fun a=>?_))
 ·refine sk' (ci' R a (fun a=>?_) (fun a=>?_))
  ·cases a
   exact t' R (re' (rq R))
  cases a
  exact sk' (t' R (re' (rq R)))
 refine t' R (ci' R a (fun a=>?_) (fun a=>?_))
 ·refine sk' (ci' R a (fun a=>?_) (fun a=>?_))
  ·cases a
   exact t' R (re' (rq R))
  cases a
  exact sk' (t' R (re' (rq R)))
 refine T' R (ci' R a (fun a=>?_) (fun a=>?_))
 ·cases a
  exact t' R (re' (rq R))
 cases a
 exact sk' (t' R (re' (rq R)))
def Fd (s:Str):Option Bool:=
 if (s == [46,46])=true then
  E7 s (s == [46,46])
 else
  if (s == [61,61])=true then
   E7 s (s == [61,61])
  else
   if (s == [33,61])=true then
    E7 s (s == [33,61])
   else
    if (s == [60,61])=true then
     E7 s (s == [60,61])
    else
     if (s == [62,61])=true then
      E7 s (s == [62,61])
     else
      if (s == [38,38])=true then
       E7 s (s == [38,38])
      else
       E7 s (s == [124,124])
theorem Bz {s res}(a:Fd s=some res):L0 C 112 [.d (.str s)] [] (Ret [] (.d (.bool res))):=by
 unfold Fd at a
 refine L0.intro hC Tryz.func112 R R R (t' R (S' (t' R (bk' (S' (t' R (ci' R a (fun a=>?_) (fun a=>?_))))))))
 ·exact sk' (eq' (N9 a) R)
 refine t' R (ci' R a (fun a=>?_) (fun a=>?_))
 ·exact sk' (eq' (N9 a) R)
 refine t' R (ci' R a (fun a=>?_) (fun a=>?_))
 ·exact sk' (eq' (N9 a) R)
 refine t' R (ci' R a (fun a=>?_) (fun a=>?_))
 ·exact sk' (eq' (N9 a) R)
 refine t' R (ci' R a (fun a=>?_) (fun a=>?_))
 ·exact sk' (eq' (N9 a) R)
 refine t' R (ci' R a (fun a=>?_) (fun a=>?_))
 ·exact sk' (eq' (N9 a) R)
 exact T' R (eq' (N9 a) R)
def Wn (s:Str)(atV:Int):Option (I0×Int):=
 Lm s atV>>=fun x1=>
 idx s atV>>=fun x2=>
 Vg (x2.toNat:Int)>>=fun x3=>
 if x3=true then
  slc s atV x1>>=fun x4=>
  Ng x4>>=fun x5=>
  if x5=true then
   some ((I0.mk 2 x4 atV),0)
  else
   if (decide (((x4).length:Int) > 12))=true then
    some ((I0.mk 0 [] 0),7)
   else
    some ((I0.mk 0 x4 atV),0)
 else
  idx s atV>>=fun x6=>
  El (x6.toNat:Int)>>=fun x7=>
  if x7=true then
   slc s atV x1>>=fun x8=>
   Mm x8>>=fun x9=>
   if (x9 != 0)=true then
    some ((I0.mk 0 [] 0),x9)
   else
    slc s atV x1>>=fun x10=>
    some ((I0.mk 1 x10 atV),0)
  else
   (if (decide ((IntKind.i64.wrap (atV+2))≤((s).length:Int)))=true then slc s atV (IntKind.i64.wrap (atV+2)) else some default)>>=fun x11=>
   (if (decide ((IntKind.i64.wrap (atV+2))≤((s).length:Int)))=true then Fd x11 else some default)>>=fun x12=>
   if (bif (decide ((IntKind.i64.wrap (atV+2))≤((s).length:Int))) then x12 else false)=true then
    slc s atV (IntKind.i64.wrap (atV+2))>>=fun x13=>
    some ((I0.mk 3 x13 atV),0)
   else
    slc s atV (IntKind.i64.wrap (atV+1))>>=fun x14=>
    Fd x14>>=fun x15=>
    if x15=true then
     slc s atV (IntKind.i64.wrap (atV+1))>>=fun x16=>
     some ((I0.mk 3 x16 atV),0)
    else
     some ((I0.mk 0 [] 0),6)
theorem J1f {s atV res}(a:Wn s atV=some res):L0 C 72 [.d (.str s),.d (.int .i64 atV)] [] (Ret [] (.tup [.agg (I0.cells res.1),.d (.int .i64 res.2)])):=by
 unfold Wn at a
 obtain ⟨x1,u,a⟩:=bs' a
 obtain ⟨x2,j,a⟩:=bs' a
 obtain ⟨I,o,a⟩:=bs' a
 refine L0.intro hC Tryz.func72 R R R (s' R R (E0.n hC R (e' R (p' 2 R (cq (X17 u) R (e' R (S' (p' 2 R (x' R (D1 j) (X5 j) (cq (Ql o) R (n' (ci' R a (fun a=>?_) (fun a=>?_)))))))))))))
 ·obtain ⟨E,q,a⟩:=bs' a
  obtain ⟨H,v,a⟩:=bs' a
  refine p' 3 R (E0.lx hC R q (e' R (S' (p' 1 R (cq (Zu v) R (n' (ci' R a (fun a=>?_) (fun a=>?_))))))))
  ·cases a
   exact p' 3 R (E0.s hC R (e' R (re' (rq R))))
  refine sk' (S' (t' R (ci' R a (fun a=>?_) (fun a=>?_))))
  ·cases a
   exact p' 1 R (E0.s hC R (e' R (re' (rq R))))
  cases a
  exact sk' (p' 3 R (E0.s hC R (e' R (re' (rq R)))))
 obtain ⟨K,k,a⟩:=bs' a
 obtain ⟨F,m,a⟩:=bs' a
 refine sk' (S' (p' 2 R (x' R (D1 k) (X5 k) (cq (Es m) R (n' (ci' R a (fun a=>?_) (fun a=>?_)))))))
 ·obtain ⟨J,t,a⟩:=bs' a
  obtain ⟨G,p,a⟩:=bs' a
  refine p' 3 R (E0.lx hC R t (cq (X1d p) R (e' R (S' (t' R (ci' R a (fun a=>?_) (fun a=>?_)))))))
  ·cases a
   exact p' 2 R (E0.s hC R (e' R (re' (rq R))))
  obtain ⟨z,i,a⟩:=bs' a
  cases a
  exact sk' (p' 3 R (E0.lx hC R i (o' 2 R (E0.s hC R (e' R (re' (rq R)))))))
 obtain ⟨B,g,a⟩:=bs' a
 obtain ⟨w,f,a⟩:=bs' a
 refine sk' (S' (sg' 13 R (G' 9 R (a1' R (AG.lx hC R R (fun hg=>⟨hg,hg,hg,trivial⟩) (fun r=>(G1 r g)) (AG.c R R (fun hg=>⟨hg,trivial⟩) (fun r=>Bz (G1 r f)) (pa' R (an' (n' (ci' R a (fun a=>?_) (fun a=>?_)))))))))))
 ·obtain ⟨y,h,a⟩:=bs' a
  cases a
  exact p' 4 R (E0.lx hC R h (o' 2 R (E0.s hC R (e' R (re' (rq R))))))
 obtain ⟨A,e,a⟩:=bs' a
 obtain ⟨D,l,a⟩:=bs' a
 refine sk' (S' (p' 4 R (E0.lx hC R e (cq (Bz l) R (n' (ci' R a (fun a=>?_) (fun a=>?_)))))))
 ·obtain ⟨x,b,a⟩:=bs' a
  cases a
  exact p' 4 R (E0.lx hC R b (o' 2 R (E0.s hC R (e' R (re' (rq R))))))
 cases a
 exact sk' (p' 1 R (E0.s hC R (e' R (re' (rq R)))))
def Wg (s:Str)(out:List I0)(atV:Int):Option (List I0×Int×Int):=
 if (decide (atV < ((s).length:Int)))=true then
  Wn s atV>>=fun x2=>
  if (x2.2 != 0)=true then
   some ([],atV,x2.2)
  else
   if (decide ((out.length+1) * 33≤140737488355328))=true then
    Dl s (IntKind.i64.wrap (atV+((x2.1.Text).length:Int)))>>=fun x3=>
    Wg s (out++[x2.1]) x3
   else none
 else
  some (out,0,0)
 partial_fixpoint
abbrev A12 (s:Str)(out:List I0)(atV:Int)(res:List I0×Int×Int):Prop:=LM C 41 0 Tryz.f39 [1,1,1,1,0,4] [(0,.d (.str s)),(5,.osl 0 (I0.rows out)),(6,.d (.int .i64 atV))] [.tok 123 3] (Ret [] (.tup [.d (.sl (I0.rows res.1)),.d (.int .i64 res.2.1),.d (.int .i64 res.2.2)]))
theorem S1b (s:Str):(∀ out b c,Wg s out b=some c→A12 s out b c):=by
 refine Wg.partial_correctness s _ ?_
 ·intro k g out b c a
  refine Y0.unroll (S' (t' R (ci' R a (fun a=>?_) (fun a=>?_))))
  ·obtain ⟨x2,f,a⟩:=bs' a
   refine sk' (bk' (p' 2 R (cq (J1f f) R (o' 3 R (E0.n hC R (E0.s hC R (e' R (S' (t' R (ci' R a (fun a=>?_) (fun a=>?_)))))))))))
   ·refine t' R (re' ?_)
    have e:=oi' a
    subst e
    exact ⟨_,.tup [.d (.sl (I0.rows [])),.d (.int .i64 b),.d (.int .i64 x2.2)],[],R,(.tupL ⟨.full,.rfl,.rfl,trivial⟩),trivial,R,R,R,R⟩
   obtain ⟨i,a⟩:=Z0 a
   obtain ⟨j,h,a⟩:=bs' a
   exact sk' (p' 2 R (E0.be hC R (I0.rows_map [x2.1]).symm (E0.ap hC R (rs:=I0.rows (out++[x2.1])) (I0.app out [x2.1]) (I0.sz out) (I0.sz [x2.1]) (N1 (I0.len out) (I0.len [x2.1]) i) (e' R (P' 6 R (cq (W11 h) R (e' R (lq (g _ _ _ a) R))))))))
  refine ex' (t' R (re' ?_))
  have e:=oi' a
  subst e
  exact ⟨_,.tup [.d (.sl (I0.rows out)),.d (.int .i64 0),.d (.int .i64 0)],[],R,(.tupL ⟨.osl,.rfl,.rfl,trivial⟩),trivial,R,R,R,R⟩
theorem Y1d {s out atV res}(a:Wg s out atV=some res):A12 s out atV res:=(S1b s) _ _ _ a
def Ip (s:Str):Option (List I0×Int×Int):=
 if (decide (((s).length:Int) > 8192))=true then
  some ([],0,5)
 else
  Dl s 0>>=fun x1=>
  Wg s [] x1
theorem L1k {s res}(a:Ip s=some res):L0 C 39 [.d (.str s)] [] (Ret [] (.tup [.d (.sl (I0.rows res.1)),.d (.int .i64 res.2.1),.d (.int .i64 res.2.2)])):=by
 unfold Ip at a
 refine L0.intro hC Tryz.func39 R R R (t' R (S' (t' R (ci' R a (fun a=>?_) (fun a=>?_)))))
 ·refine t' R (re' ?_)
  have c:=oi' a
  subst c
  exact ⟨_,.tup [.d (.sl (I0.rows [])),.d (.int .i64 0),.d (.int .i64 5)],[],R,(.tupL ⟨.full,.rfl,.rfl,trivial⟩),trivial,R,R,R,R⟩
 obtain ⟨x1,b,a⟩:=bs' a
 exact sk' (s' R R (E0.be hC R (I0.rows_map []).symm (E0.tokE 12 123 3 R (e' R (p' 1 R (cq (W11 b) R (e' R (S' (bk' (fq (Y1d a) R))))))))))
def B1 (l:List I0)(atV:Int)(text:Str):Option Bool:=
 (if (decide (atV < ((l).length:Int)))=true then idx l atV else some default)>>=fun x1=>
 (if ((decide (atV < ((l).length:Int)))&&(!(x1.Kind == 2)))=true then idx l atV else some default)>>=fun x2=>
 (if (bif (decide (atV < ((l).length:Int))) then (bif (x1.Kind == 2) then true else (x2.Kind == 3)) else false)=true then idx l atV else some default)>>=fun x3=>
 some (bif (bif (decide (atV < ((l).length:Int))) then (bif (x1.Kind == 2) then true else (x2.Kind == 3)) else false) then (x3.Text == text) else false)
theorem W0 {l atV text res}(a:B1 l atV text=some res):L0 C 75 [.d (.sl (I0.rows l)),.d (.int .i64 atV),.d (.str text)] [] (Ret [] (.d (.bool res))):=by
 unfold B1 at a
 obtain ⟨x1,e,a⟩:=bs' a
 obtain ⟨x2,c,a⟩:=bs' a
 obtain ⟨g,f,a⟩:=bs' a
 cases a
 refine L0.intro hC Tryz.func75 R R R (t' R (sg' 30 R (G' 2 R (AG.qe hC R (fun hg=>⟨trivial,trivial⟩) (I0.lenA _) (G' 4 R (AG.i hC R R (fun hg=>⟨hg,hg,trivial⟩) (fun b=>⟨D1 (G1 b e),I0.idx (G1 b e),R⟩) (a1' R (a1' R (a1' R (a1' R (G' 2 R (AG.i hC R R (fun hg=>⟨hg,hg,trivial⟩) (fun b=>⟨D1 (G1 b c),I0.idx (G1 b c),R⟩) ?_))))))))))))
 refine a1' R (a1' R (a1' R (pO' R (pa' R (G' 3 R (AG.i hC R R (fun hg=>⟨hg,hg,trivial⟩) (fun b=>⟨D1 (G1 b f),I0.idx (G1 b f),R⟩) (a1' R (a1' R (a0' R (a2' R (pa' R (a0' R (an' ?_)))))))))))))
 exact n' (re' (rq R))
def Cj (l:List I0)(atV:Int):Option Bool:=
 B1 l atV [116,121,112,101]>>=fun x1=>
 (if (!x1)=true then B1 l atV [115,101,99,114,101,116] else some default)>>=fun x2=>
 (if (!(bif x1 then true else x2))=true then B1 l atV [112,117,98,108,105,99] else some default)>>=fun x3=>
 (if (!(bif (bif x1 then true else x2) then true else x3))=true then B1 l atV [114,97,110,100,111,109] else some default)>>=fun x4=>
 (if (!(bif (bif (bif x1 then true else x2) then true else x3) then true else x4))=true then B1 l atV [118,97,114] else some default)>>=fun x5=>
 (if (!(bif (bif (bif (bif x1 then true else x2) then true else x3) then true else x4) then true else x5))=true then B1 l atV [104,97,116,99,104] else some default)>>=fun x6=>
 (if (!(bif (bif (bif (bif (bif x1 then true else x2) then true else x3) then true else x4) then true else x5) then true else x6))=true then B1 l atV [102,117,110,99] else some default)>>=fun x7=>
 some (bif (bif (bif (bif (bif (bif x1 then true else x2) then true else x3) then true else x4) then true else x5) then true else x6) then true else x7)
theorem A1a {l atV res}(a:Cj l atV=some res):L0 C 73 [.d (.sl (I0.rows l)),.d (.int .i64 atV)] [] (Ret [] (.d (.bool res))):=by
 unfold Cj at a
 obtain ⟨x1,j,a⟩:=bs' a
 obtain ⟨x2,h,a⟩:=bs' a
 obtain ⟨p,f,a⟩:=bs' a
 obtain ⟨m,g,a⟩:=bs' a
 obtain ⟨o,k,a⟩:=bs' a
 obtain ⟨q,i,a⟩:=bs' a
 obtain ⟨n,e,a⟩:=bs' a
 cases a
 refine L0.intro hC Tryz.func73 R R R (t' R (sg' 34 R (G' 2 R (AG.c R R (fun _=>trivial) (fun _=>W0 j) (G' 3 R (AG.c R R (fun hg=>⟨hg,hg,trivial⟩) (fun b=>W0 (G1 b h)) (po' R (G' 3 R (AG.c R R (fun hg=>⟨hg,hg,trivial⟩) (fun b=>W0 (G1 b f)) (po' R (G' 3 R (AG.c R R (fun hg=>⟨hg,hg,trivial⟩) (fun b=>W0 (G1 b g)) ?_))))))))))))
 exact po' R (G' 3 R (AG.c R R (fun hg=>⟨hg,hg,trivial⟩) (fun b=>W0 (G1 b k)) (po' R (G' 3 R (AG.c R R (fun hg=>⟨hg,hg,trivial⟩) (fun b=>W0 (G1 b i)) (po' R (G' 3 R (AG.c R R (fun hg=>⟨hg,hg,trivial⟩) (fun b=>W0 (G1 b e)) (po' R (a0' R (an' (n' (re' (rq R))))))))))))))
def S8 (l:List I0)(atV:Int):Option (Str×Int×Bool):=
 (if (decide (atV < ((l).length:Int)))=true then idx l atV else some default)>>=fun x1=>
 if (bif (decide (atV < ((l).length:Int))) then (x1.Kind == 0) else false)=true then
  idx l atV>>=fun x2=>
  some (x2.Text,(IntKind.i64.wrap (atV+1)),true)
 else
  some ([],atV,false)
theorem V9 {l atV res}(a:S8 l atV=some res):L0 C 115 [.d (.sl (I0.rows l)),.d (.int .i64 atV)] [] (Ret [] (.tup [.d (.str res.1),.d (.int .i64 res.2.1),.d (.bool res.2.2)])):=by
 unfold S8 at a
 obtain ⟨x1,c,a⟩:=bs' a
 refine L0.intro hC Tryz.func115 R R R (t' R (S' (sg' 12 R (G' 2 R (AG.qe hC R (fun hg=>⟨trivial,trivial⟩) (I0.lenA _) (G' 4 R (AG.i hC R R (fun hg=>⟨hg,hg,trivial⟩) (fun e=>⟨D1 (G1 e c),I0.idx (G1 e c),R⟩) (a1' R (a1' R (a1' R (pa' R (an' (n' (ci' R a (fun a=>?_) (fun a=>?_)))))))))))))))
 ·obtain ⟨x2,b,a⟩:=bs' a
  cases a
  exact p' 2 R (i' R (D1 b) (I0.idx b) R (e' R (re' (rq R))))
 cases a
 exact sk' (t' R (re' (rq R)))
def Pa (l:List I0)(atV:Int)(n:Int)(i:Int):Option (Int×Int×Bool):=
 idx l atV>>=fun x2=>
 if (decide (i < ((x2.Text).length:Int)))=true then
  idx l atV>>=fun x3=>
  idx x3.Text i>>=fun x4=>
  Pa l atV (IntKind.i64.wrap ((IntKind.i64.wrap (10 * n))+(IntKind.i64.wrap (IntKind.u8.wrap ((x4.toNat:Int) - 48))))) (IntKind.i64.wrap (i+1))
 else
  some (n,(IntKind.i64.wrap (atV+1)),true)
 partial_fixpoint
abbrev Cv (l:List I0)(atV:Int)(n:Int)(i:Int)(res:Int×Int×Bool):Prop:=LM C 47 0 Tryz.f209 [1,1,1,0,1,4] [(0,.d (.sl (I0.rows l))),(1,.d (.int .i64 atV)),(7,.d (.int .i64 n)),(8,.d (.int .i64 i))] [] (Ret [] (.tup [.d (.int .i64 res.1),.d (.int .i64 res.2.1),.d (.bool res.2.2)]))
theorem H16 (l:List I0)(c:Int):(∀ n i b,Pa l c n i=some b→Cv l c n i b):=by
 refine Pa.partial_correctness l c _ ?_
 ·intro k g n i b a
  obtain ⟨x2,d,a⟩:=bs' a
  refine Y0.unroll (S' (p' 3 R (i' R (D1 d) (I0.idx d) R (e' R (ci' R a (fun a=>?_) (fun a=>?_))))))
  ·obtain ⟨j,f,a⟩:=bs' a
   obtain ⟨h,e,a⟩:=bs' a
   exact sk' (S' (bk' (P' 4 R (i' R (D1 f) (I0.idx f) R (o' 3 R (x' R (D1 e) (X5 e) (e' R (T' R (lq (g _ _ _ a) R)))))))))
  cases a
  exact ex' (t' R (re' (rq R)))
theorem A18 {l atV n i res}(a:Pa l atV n i=some res):Cv l atV n i res:=(H16 l atV) _ _ _ a
def Xg (l:List I0)(atV:Int):Option (Int×Int×Bool):=
 (if (!(decide (atV≥((l).length:Int))))=true then idx l atV else some default)>>=fun x1=>
 if (bif (decide (atV≥((l).length:Int))) then true else (x1.Kind != 1))=true then
  some (0,atV,false)
 else
  Pa l atV 0 0
theorem Dq {l atV res}(a:Xg l atV=some res):L0 C 209 [.d (.sl (I0.rows l)),.d (.int .i64 atV)] [] (Ret [] (.tup [.d (.int .i64 res.1),.d (.int .i64 res.2.1),.d (.bool res.2.2)])):=by
 unfold Xg at a
 obtain ⟨x1,b,a⟩:=bs' a
 refine L0.intro hC Tryz.func209 R R R (t' R (S' (sg' 12 R (G' 2 R (AG.qe hC R (fun hg=>⟨trivial,trivial⟩) (I0.lenA _) (G' 4 R (AG.i hC R R (fun hg=>⟨hg,hg,trivial⟩) (fun c=>⟨D1 (G1 c b),I0.idx (G1 c b),R⟩) (a1' R (a1' R (a1' R (po' R (an' (n' (ci' R a (fun a=>?_) (fun a=>?_)))))))))))))))
 ·cases a
  exact t' R (re' (rq R))
 exact sk' (t' R (S' (t' R (bk' (fq (A18 a) R)))))
def K4 (l:List I0)(atV:Int):Option (Int×Int×Bool):=
 B1 l atV [45]>>=fun x1=>
 if x1=true then
  Xg l (IntKind.i64.wrap (atV+1))>>=fun x2=>
  some ((IntKind.i64.wrap (0 - x2.1)),x2.2.1,x2.2.2)
 else
  Xg l atV>>=fun x3=>
  some (x3.1,x3.2.1,x3.2.2)
theorem U7 {l atV res}(a:K4 l atV=some res):L0 C 181 [.d (.sl (I0.rows l)),.d (.int .i64 atV)] [] (Ret [] (.tup [.d (.int .i64 res.1),.d (.int .i64 res.2.1),.d (.bool res.2.2)])):=by
 unfold K4 at a
 obtain ⟨x1,c,a⟩:=bs' a
 refine L0.intro hC Tryz.func181 R R R (t' R (S' (p' 2 R (cq (W0 c) R (n' (ci' R a (fun a=>?_) (fun a=>?_)))))))
 ·obtain ⟨x2,b,a⟩:=bs' a
  cases a
  exact p' 3 R (cq (Dq b) R (e' R (t' R (re' (rq R)))))
 obtain ⟨f,e,a⟩:=bs' a
 cases a
 exact sk' (p' 2 R (cq (Dq e) R (e' R (re' (rq R)))))
def Dj (l:List I0)(atV:Int):Option (F0×Int×Bool):=
 B1 l atV [91]>>=fun x1=>
 if (!x1)=true then
  some ((F0.mk 0 0 0 0 [] [] []),atV,false)
 else
  K4 l (IntKind.i64.wrap (atV+1))>>=fun x2=>
  (if (!(!x2.2.2))=true then B1 l x2.2.1 [46,46] else some default)>>=fun x3=>
  if (bif (!x2.2.2) then true else (!x3))=true then
   some ((F0.mk 0 0 0 0 [] [] []),x2.2.1,false)
  else
   K4 l (IntKind.i64.wrap (x2.2.1+1))>>=fun x4=>
   (if (!(!x4.2.2))=true then B1 l x4.2.1 [93] else some default)>>=fun x5=>
   if (bif (!x4.2.2) then true else (!x5))=true then
    some ((F0.mk 0 0 0 0 [] [] []),x4.2.1,false)
   else
    some ((F0.mk 1 x2.1 x4.1 0 [] [] []),(IntKind.i64.wrap (x4.2.1+1)),true)
theorem B1a {l atV res}(a:Dj l atV=some res):L0 C 180 [.d (.sl (I0.rows l)),.d (.int .i64 atV)] [] (Ret [] (.tup [.agg (F0.cells res.1),.d (.int .i64 res.2.1),.d (.bool res.2.2)])):=by
 unfold Dj at a
 obtain ⟨x1,f,a⟩:=bs' a
 refine L0.intro hC Tryz.func180 R R R (s' R R (E0.nf hC R (e' R (S' (p' 2 R (cq (W0 f) R (e' R (ci' R a (fun a=>?_) (fun a=>?_)))))))))
 ·cases a
  exact p' 2 R (E0.s hC R (e' R (re' (rq R))))
 obtain ⟨x2,b,a⟩:=bs' a
 obtain ⟨m,g,a⟩:=bs' a
 refine sk' (p' 3 R (cq (U7 b) R (e' R (S' (sg' 8 R (G' 5 R (AG.c R R (fun hg=>⟨hg,hg,trivial⟩) (fun h=>W0 (G1 h g)) (a1' R (po' R (an' (n' (ci' R a (fun a=>?_) (fun a=>?_)))))))))))))
 ·cases a
  exact p' 2 R (E0.s hC R (e' R (re' (rq R))))
 obtain ⟨j,e,a⟩:=bs' a
 obtain ⟨k,i,a⟩:=bs' a
 refine sk' (p' 3 R (cq (U7 e) R (e' R (S' (sg' 8 R (G' 5 R (AG.c R R (fun hg=>⟨hg,hg,trivial⟩) (fun h=>W0 (G1 h i)) (a1' R (po' R (an' (n' (ci' R a (fun a=>?_) (fun a=>?_)))))))))))))
 ·cases a
  exact p' 2 R (E0.s hC R (e' R (re' (rq R))))
 cases a
 exact sk' (p' 5 R (E0.s hC R (e' R (re' (rq R)))))
mutual
def O4 (l:List I0)(atV:Int):Option (B0×Int×Bool):=
 S8 l atV>>=fun x1=>
 (if (!(!x1.2.2))=true then B1 l x1.2.1 [58] else some default)>>=fun x2=>
 if (bif (!x1.2.2) then true else (!x2))=true then
  some ((B0.mk 0 [] (F0.mk 0 0 0 0 [] [] []) 0 (A0.mk 0 0 [] []) [] [] []),x1.2.1,false)
 else
  O9 l (IntKind.i64.wrap (x1.2.1+1))>>=fun x3=>
  some ((B0.mk 4 x1.1 x3.1 0 (A0.mk 0 0 [] []) [] [] []),x3.2.1,x3.2.2)
 partial_fixpoint
def O9 (l:List I0)(atV:Int):Option (F0×Int×Bool):=
 B1 l atV [98,111,111,108]>>=fun x1=>
 if x1=true then
  some ((F0.mk 0 0 0 0 [] [] []),(IntKind.i64.wrap (atV+1)),true)
 else
  B1 l atV [105,110,116]>>=fun x2=>
  if x2=true then
   Dj l (IntKind.i64.wrap (atV+1))>>=fun x3=>
   some (x3.1,x3.2.1,x3.2.2)
  else
   B1 l atV [97,114,114,97,121]>>=fun x4=>
   if x4=true then
    K4 l (IntKind.i64.wrap (atV+1))>>=fun x5=>
    (if (!(!x5.2.2))=true then B1 l x5.2.1 [111,102] else some default)>>=fun x6=>
    if (bif (!x5.2.2) then true else (!x6))=true then
     some ((F0.mk 0 0 0 0 [] [] []),x5.2.1,false)
    else
     O9 l (IntKind.i64.wrap (x5.2.1+1))>>=fun x10=>
     some ((F0.mk 2 0 0 x5.1 [] [] [x10.1]),x10.2.1,x10.2.2)
   else
    B1 l atV [114,101,99,111,114,100]>>=fun x7=>
    if x7=true then
     Eq l (IntKind.i64.wrap (atV+1))>>=fun x8=>
     some (x8.1,x8.2.1,x8.2.2)
    else
     S8 l atV>>=fun x9=>
     some ((F0.mk 4 0 0 0 x9.1 [] []),x9.2.1,x9.2.2)
 partial_fixpoint
def Eq (l:List I0)(atV:Int):Option (F0×Int×Bool):=
 B1 l atV [123]>>=fun x1=>
 if (!x1)=true then
  some ((F0.mk 3 0 0 0 [] [] []),atV,false)
 else
  T8 l [] [] atV
 partial_fixpoint
def T8 (l:List I0)(o1_Names:List Str)(o1_Of:List F0)(atV1:Int):Option (F0×Int×Bool):=
 O4 l (IntKind.i64.wrap (atV1+1))>>=fun x2=>
 if (!x2.2.2)=true then
  some ((F0.mk 3 0 0 0 [] o1_Names o1_Of),x2.2.1,false)
 else
  if (decide ((o1_Names.length+1) * 17≤140737488355328))=true then
   if (decide ((o1_Of.length+1) * 97≤140737488355328))=true then
    B1 l x2.2.1 [125]>>=fun x3=>
    if x3=true then
     some ((F0.mk 3 0 0 0 [] (o1_Names++[x2.1.Name]) (o1_Of++[x2.1.TypeV])),(IntKind.i64.wrap (x2.2.1+1)),true)
    else
     B1 l x2.2.1 [44]>>=fun x4=>
     if (!x4)=true then
      some ((F0.mk 3 0 0 0 [] (o1_Names++[x2.1.Name]) (o1_Of++[x2.1.TypeV])),x2.2.1,false)
     else
      T8 l (o1_Names++[x2.1.Name]) (o1_Of++[x2.1.TypeV]) x2.2.1
   else none
  else none
 partial_fixpoint
end
abbrev M15 (l:List I0)(atV:Int)(res:B0×Int×Bool):Prop:=L0 C 117 [.d (.sl (I0.rows l)),.d (.int .i64 atV)] [] (Ret [] (.tup [.agg (B0.cells res.1),.d (.int .i64 res.2.1),.d (.bool res.2.2)]))
abbrev T1a (l:List I0)(atV:Int)(res:F0×Int×Bool):Prop:=L0 C 116 [.d (.sl (I0.rows l)),.d (.int .i64 atV)] [] (Ret [] (.tup [.agg (F0.cells res.1),.d (.int .i64 res.2.1),.d (.bool res.2.2)]))
abbrev K1f (l:List I0)(atV:Int)(res:F0×Int×Bool):Prop:=L0 C 182 [.d (.sl (I0.rows l)),.d (.int .i64 atV)] [] (Ret [] (.tup [.agg (F0.cells res.1),.d (.int .i64 res.2.1),.d (.bool res.2.2)]))
abbrev C1a (l:List I0)(o1_Names:List Str)(o1_Of:List F0)(atV1:Int)(res:F0×Int×Bool):Prop:=LM C 57 0 Tryz.f182 [1,1,1,4] [(0,.d (.sl (I0.rows l))),(1,.d (.int .i64 atV1)),(4,.ref 0 0),(7,.ref 1 0)] [.row [.d (.int .i64 0),.d (.int .i64 0),.d (.int .i64 0),.d (.int .i64 0),.d (.str []),.full (estr.rows []),.full (F0.rows [])] 76,.row [.d (.int .i64 3),.d (.int .i64 0),.d (.int .i64 0),.d (.int .i64 0),.d (.str []),.osl 2 (estr.rows o1_Names),.osl 3 (F0.rows o1_Of)] 76,.tok 9 1,.tok 76 7] (Ret [] (.tup [.agg (F0.cells res.1),.d (.int .i64 res.2.1),.d (.bool res.2.2)]))
theorem Cz (l:List I0):(∀ g f,O4 l g=some f→M15 l g f)∧(∀ g f,O9 l g=some f→T1a l g f)∧(∀ g f,Eq l g=some f→K1f l g f)∧(∀ b e k f,T8 l b e k=some f→C1a l b e k f):=by
 refine O4.mutual_partial_correctness l _ _ _ _ ?_ ?_ ?_ ?_
 ·intro F q g f a
  obtain ⟨x1,j,a⟩:=bs' a
  obtain ⟨x2,i,a⟩:=bs' a
  refine L0.intro hC Tryz.func117 R R R (s' R R (E0.nf hC R (e' R (p' 2 R (cq (V9 j) R (e' R (S' (sg' 8 R (G' 5 R (AG.c R R (fun hg=>⟨hg,hg,trivial⟩) (fun y=>W0 (G1 y i)) (a1' R (po' R (an' ?_)))))))))))))
  refine n' (ci' R a (fun a=>?_) (fun a=>?_))
  ·cases a
   exact p' 2 R (E0.s hC R (e' R (re' (rq R))))
  obtain ⟨C,h,a⟩:=bs' a
  cases a
  exact sk' (p' 3 R (cq (q _ _ h) R (o' 4 R (E0.nf hC R (E0.s hC R (e' R (p' 5 R (E0.s hC R (e' R (re' (rq R)))))))))))
 ·intro F L q v g f a
  obtain ⟨x1,j,a⟩:=bs' a
  refine L0.intro hC Tryz.func116 R R R (s' R R (E0.nf hC R (e' R (S' (p' 2 R (cq (W0 j) R (n' (ci' R a (fun a=>?_) (fun a=>?_)))))))))
  ·cases a
   exact p' 3 R (E0.s hC R (e' R (re' (rq R))))
  obtain ⟨x2,i,a⟩:=bs' a
  refine sk' (S' (p' 2 R (cq (W0 i) R (n' (ci' R a (fun a=>?_) (fun a=>?_))))))
  ·obtain ⟨C,h,a⟩:=bs' a
   cases a
   exact p' 3 R (cq (B1a h) R (o' 3 R (E0.s hC R (e' R (re' (rq R))))))
  obtain ⟨D,p,a⟩:=bs' a
  refine sk' (S' (p' 2 R (cq (W0 p) R (n' (ci' R a (fun a=>?_) (fun a=>?_))))))
  ·obtain ⟨H,t,a⟩:=bs' a
   obtain ⟨I,A,a⟩:=bs' a
   refine p' 3 R (cq (U7 t) R (e' R (S' (sg' 8 R (G' 5 R (AG.c R R (fun hg=>⟨hg,hg,trivial⟩) (fun y=>W0 (G1 y A)) (a1' R (po' R (an' (n' (ci' R a (fun a=>?_) (fun a=>?_))))))))))))
   ·cases a
    exact p' 2 R (E0.s hC R (e' R (re' (rq R))))
   obtain ⟨n,r,a⟩:=bs' a
   refine sk' (p' 3 R (cq (q _ _ r) R (o' 4 R (E0.nf hC R (E0.s hC R (e' R (p' 2 R (E0.be hC R (F0.rows_map [n.1]).symm (o' 3 R (E0.s hC R (e' R (re' ?_))))))))))))
   have m:=oi' a
   subst m
   exact ⟨_,.tup [.agg [.d (.int .i64 2),.d (.int .i64 0),.d (.int .i64 0),.d (.int .i64 H.1),.d (.str []),.d (.sl (estr.rows [])),.d (.sl (F0.rows [n.1]))],.d (.int .i64 n.2.1),.d (.bool n.2.2)],[],R,(.tupL ⟨(.aggL ⟨.rfl,.rfl,.rfl,.rfl,.rfl,.rfl,.full,trivial⟩),.rfl,.rfl,trivial⟩),trivial,R,R,R,R⟩
  obtain ⟨J,u,a⟩:=bs' a
  refine sk' (S' (p' 2 R (cq (W0 u) R (n' (ci' R a (fun a=>?_) (fun a=>?_))))))
  ·obtain ⟨N,z,a⟩:=bs' a
   cases a
   exact p' 3 R (cq (v _ _ z) R (o' 3 R (E0.s hC R (e' R (re' (rq R))))))
  obtain ⟨K,x,a⟩:=bs' a
  cases a
  exact sk' (p' 2 R (cq (V9 x) R (e' R (p' 4 R (E0.s hC R (e' R (re' (rq R))))))))
 ·intro E o g f a
  obtain ⟨x1,j,a⟩:=bs' a
  refine L0.intro hC Tryz.func182 R R R (s' R R (E0.nf hC R (e' R (s' R R (E0.bz hC R (E0.nf hC R (E0.s hC R (E0.tokC 1 5 9 1 R R R R R (E0.tokC 1 6 76 7 R R R R R (n' (S' (p' 2 R (cq (W0 j) R ?_)))))))))))))
  refine e' R (ci' R a (fun a=>?_) (fun a=>?_))
  ·refine p' 2 R (E0.s hC R (e' R (re' ?_)))
   have m:=oi' a
   subst m
   exact ⟨_,.tup [.agg [.d (.int .i64 3),.d (.int .i64 0),.d (.int .i64 0),.d (.int .i64 0),.d (.str []),.d (.sl (estr.rows [])),.d (.sl (F0.rows []))],.d (.int .i64 g),.d (.bool false)],[],R,(.tupL ⟨(.aggL ⟨.rfl,.rfl,.rfl,.rfl,.rfl,.osl,.osl,trivial⟩),.rfl,.rfl,trivial⟩),trivial,R,R,R,R⟩
  exact sk' (bk' (fq (o _ _ _ _ a) R))
 ·intro M E w o b e k f a
  obtain ⟨x2,i,a⟩:=bs' a
  refine Y0.unroll (bk' (p' 3 R (cq (w _ _ i) R (o' 4 R (E0.nf hC R (E0.s hC R (e' R (S' (t' R (ci' R a (fun a=>?_) (fun a=>?_)))))))))))
  ·refine p' 2 R (E0.s hC R (e' R (re' ?_)))
   have m:=oi' a
   subst m
   exact ⟨_,.tup [.agg [.d (.int .i64 3),.d (.int .i64 0),.d (.int .i64 0),.d (.int .i64 0),.d (.str []),.d (.sl (estr.rows b)),.d (.sl (F0.rows e))],.d (.int .i64 x2.2.1),.d (.bool false)],[],R,(.tupL ⟨(.aggL ⟨.rfl,.rfl,.rfl,.rfl,.rfl,.osl,.osl,trivial⟩),.rfl,.rfl,trivial⟩),trivial,R,R,R,R⟩
  obtain ⟨G,a⟩:=Z0 a
  obtain ⟨B,a⟩:=Z0 a
  obtain ⟨C,h,a⟩:=bs' a
  refine sk' (p' 4 R (E0.be hC R (estr.rows_map [x2.1.Name]).symm (E0.ap hC R (rs:=estr.rows (b++[x2.1.Name])) (estr.app b [x2.1.Name]) (estr.sz b) (estr.sz [x2.1.Name]) (N1 (estr.len b) (estr.len [x2.1.Name]) G) (q' R (E0.s hC R (n' (p' 4 R (E0.be hC R (F0.rows_map [x2.1.TypeV]).symm ?_))))))))
  refine E0.ap hC R (rs:=F0.rows (e++[x2.1.TypeV])) (F0.app e [x2.1.TypeV]) (F0.sz e) (F0.sz [x2.1.TypeV]) (N1 (F0.len e) (F0.len [x2.1.TypeV]) B) (q' R (E0.s hC R (n' (t' R (S' (p' 2 R (cq (W0 h) R (n' (ci' R a (fun a=>?_) (fun a=>?_))))))))))
  ·refine p' 3 R (E0.s hC R (e' R (re' ?_)))
   have m:=oi' a
   subst m
   exact ⟨_,.tup [.agg [.d (.int .i64 3),.d (.int .i64 0),.d (.int .i64 0),.d (.int .i64 0),.d (.str []),.d (.sl (estr.rows (b++[x2.1.Name]))),.d (.sl (F0.rows (e++[x2.1.TypeV])))],.d (.int .i64 (IntKind.i64.wrap (x2.2.1+1))),.d (.bool true)],[],R,(.tupL ⟨(.aggL ⟨.rfl,.rfl,.rfl,.rfl,.rfl,.osl,.osl,trivial⟩),.rfl,.rfl,trivial⟩),trivial,R,R,R,R⟩
  obtain ⟨D,p,a⟩:=bs' a
  refine sk' (p' 2 R (cq (W0 p) R (e' R (ci' R a (fun a=>?_) (fun a=>?_)))))
  ·refine p' 2 R (E0.s hC R (e' R (re' ?_)))
   have m:=oi' a
   subst m
   exact ⟨_,.tup [.agg [.d (.int .i64 3),.d (.int .i64 0),.d (.int .i64 0),.d (.int .i64 0),.d (.str []),.d (.sl (estr.rows (b++[x2.1.Name]))),.d (.sl (F0.rows (e++[x2.1.TypeV])))],.d (.int .i64 x2.2.1),.d (.bool false)],[],R,(.tupL ⟨(.aggL ⟨.rfl,.rfl,.rfl,.rfl,.rfl,.osl,.osl,trivial⟩),.rfl,.rfl,trivial⟩),trivial,R,R,R,R⟩
  exact sk' (lq (o _ _ _ _ a) R)
theorem Fs {l atV res}(a:O4 l atV=some res):M15 l atV res:=(Cz l).1 _ _ a
theorem B18 {l atV res}(a:O9 l atV=some res):T1a l atV res:=(Cz l).2.1 _ _ a
def Fi (l:List I0)(atV:Int):Option (Int×Int×Bool):=
 B1 l atV [116,114,117,101]>>=fun x1=>
 if x1=true then
  some (1,(IntKind.i64.wrap (atV+1)),true)
 else
  B1 l atV [102,97,108,115,101]>>=fun x2=>
  if x2=true then
   some (0,(IntKind.i64.wrap (atV+1)),true)
  else
   K4 l atV>>=fun x3=>
   some (x3.1,x3.2.1,x3.2.2)
theorem L1f {l atV res}(a:Fi l atV=some res):L0 C 178 [.d (.sl (I0.rows l)),.d (.int .i64 atV)] [] (Ret [] (.tup [.d (.int .i64 res.1),.d (.int .i64 res.2.1),.d (.bool res.2.2)])):=by
 unfold Fi at a
 obtain ⟨x1,c,a⟩:=bs' a
 refine L0.intro hC Tryz.func178 R R R (t' R (S' (p' 2 R (cq (W0 c) R (n' (ci' R a (fun a=>?_) (fun a=>?_)))))))
 ·cases a
  exact t' R (re' (rq R))
 obtain ⟨x2,b,a⟩:=bs' a
 refine sk' (S' (p' 2 R (cq (W0 b) R (n' (ci' R a (fun a=>?_) (fun a=>?_))))))
 ·cases a
  exact t' R (re' (rq R))
 obtain ⟨f,e,a⟩:=bs' a
 cases a
 exact sk' (p' 2 R (cq (U7 e) R (e' R (re' (rq R)))))
def K6 (l:List I0)(x1:B0×Int×Bool)(o1_Init:Int)(atV1:Int):Option (B0×Int×Bool):=
 B1 l atV1 [59]>>=fun x4=>
 if (!x4)=true then
  some ((B0.mk x1.1.Kind x1.1.Name x1.1.TypeV o1_Init x1.1.Value x1.1.Params x1.1.Vars x1.1.Body),atV1,false)
 else
  some ((B0.mk x1.1.Kind x1.1.Name x1.1.TypeV o1_Init x1.1.Value x1.1.Params x1.1.Vars x1.1.Body),(IntKind.i64.wrap (atV1+1)),true)
theorem Fq {l x1 o1_Init atV1 res}(a:K6 l x1 o1_Init atV1=some res):JM C 45 0 Tryz.f113 [1,1,1,1] [(0,.d (.sl (I0.rows l))),(1,.d (.int .i64 atV1)),(4,.ref 0 0),(7,.ref 1 0)] [.row [.d (.int .i64 0),.d (.str []),.d (.int .i64 0),.d (.int .i64 0),.d (.int .i64 0),.d (.int .i64 0),.d (.str []),.full (estr.rows []),.full (F0.rows []),.d (.int .i64 0),.d (.int .i64 0),.d (.int .i64 0),.d (.str []),.full (A0.rows []),.full (B0.rows []),.full (B0.rows []),.full (C0.rows [])] 82,.row [.d (.int .i64 x1.1.Kind),.d (.str x1.1.Name),.d (.int .i64 x1.1.TypeV.Kind),.d (.int .i64 x1.1.TypeV.Low),.d (.int .i64 x1.1.TypeV.High),.d (.int .i64 x1.1.TypeV.Size),.d (.str x1.1.TypeV.Name),.d (.sl (estr.rows x1.1.TypeV.Names)),.d (.sl (F0.rows x1.1.TypeV.Of)),.d (.int .i64 o1_Init),.d (.int .i64 x1.1.Value.Op),.d (.int .i64 x1.1.Value.NV),.d (.str x1.1.Value.Name),.d (.sl (A0.rows x1.1.Value.Kids)),.d (.sl (B0.rows x1.1.Params)),.d (.sl (B0.rows x1.1.Vars)),.d (.sl (C0.rows x1.1.Body))] 82] (Ret [] (.tup [.agg (B0.cells res.1),.d (.int .i64 res.2.1),.d (.bool res.2.2)])):=by
 unfold K6 at a
 obtain ⟨c,b,a⟩:=bs' a
 refine S' (p' 2 R (cq (W0 b) R (e' R (ci' R a (fun a=>?_) (fun a=>?_)))))
 ·cases a
  exact p' 2 R (E0.s hC R (e' R (re' (rq R))))
 cases a
 exact sk' (p' 3 R (E0.s hC R (e' R (re' (rq R)))))
def Ca (l:List I0)(atV:Int):Option (B0×Int×Bool):=
 O4 l atV>>=fun x1=>
 if (!x1.2.2)=true then
  some (x1.1,x1.2.1,false)
 else
  B1 l x1.2.1 [61]>>=fun x2=>
  if x2=true then
   Fi l (IntKind.i64.wrap (x1.2.1+1))>>=fun x3=>
   if (!x3.2.2)=true then
    some ((B0.mk x1.1.Kind x1.1.Name x1.1.TypeV x3.1 x1.1.Value x1.1.Params x1.1.Vars x1.1.Body),x3.2.1,false)
   else
    K6 l x1 x3.1 x3.2.1
  else
   K6 l x1 x1.1.Init x1.2.1
theorem Dv {l atV res}(a:Ca l atV=some res):L0 C 113 [.d (.sl (I0.rows l)),.d (.int .i64 atV)] [] (Ret [] (.tup [.agg (B0.cells res.1),.d (.int .i64 res.2.1),.d (.bool res.2.2)])):=by
 unfold Ca at a
 obtain ⟨x1,c,a⟩:=bs' a
 refine L0.intro hC Tryz.func113 R R R (s' R R (E0.nf hC R (e' R (p' 2 R (cq (Fs c) R (o' 4 R (E0.nf hC R (E0.s hC R (e' R (S' (t' R (ci' R a (fun a=>?_) (fun a=>?_)))))))))))))
 ·cases a
  exact p' 2 R (E0.s hC R (e' R (re' (rq R))))
 obtain ⟨x2,b,a⟩:=bs' a
 refine sk' (S' (p' 2 R (cq (W0 b) R (n' (ci' R a (fun a=>?_) (fun a=>?_))))))
 ·obtain ⟨f,e,a⟩:=bs' a
  refine p' 3 R (cq (L1f e) R (o' 5 R (E0.s hC R (e' R (t' R (ci' R a (fun a=>?_) (fun a=>?_)))))))
  ·cases a
   exact p' 2 R (E0.s hC R (e' R (re' (rq R))))
  exact sk' (eq' (Fq a) R)
 exact sk' (eq' (Fq a) R)
def Hc (l:List I0)(texts:List Str)(atV1:Int)(i:Int):Option (Int×Bool):=
 if (decide (i < ((texts).length:Int)))=true then
  idx texts i>>=fun x1=>
  B1 l atV1 x1>>=fun x2=>
  if (!x2)=true then
   some (atV1,false)
  else
   Hc l texts (IntKind.i64.wrap (atV1+1)) (IntKind.i64.wrap (i+1))
 else
  some (atV1,true)
 partial_fixpoint
abbrev Ox (l:List I0)(texts:List Str)(atV1:Int)(i:Int)(res:Int×Bool):Prop:=LM C 27 0 Tryz.f179 [1,0,1,4] [(0,.d (.sl (I0.rows l))),(1,.d (.int .i64 atV1)),(2,.d (.sl (estr.rows texts))),(8,.d (.int .i64 i))] [] (Ret [] (.tup [.d (.int .i64 res.1),.d (.bool res.2)]))
theorem C18 (l:List I0)(texts:List Str):(∀ b i c,Hc l texts b i=some c→Ox l texts b i c):=by
 refine Hc.partial_correctness l texts _ ?_
 ·intro g f b i c a
  refine Y0.unroll (S' (p' 2 R (qe' R trivial (estr.lenA _) (e' R (ci' R a (fun a=>?_) (fun a=>?_))))))
  ·obtain ⟨x1,d,a⟩:=bs' a
   obtain ⟨x2,e,a⟩:=bs' a
   refine sk' (S' (bk' (S' (p' 4 R (i' R (D1 d) (estr.idx d) R (q' R (cq (W0 e) R (e' R (ci' R a (fun a=>?_) (fun a=>?_))))))))))
   ·cases a
    exact t' R (re' (rq R))
   exact sk' (T' R (T' R (lq (f _ _ _ a) R)))
  cases a
  exact ex' (t' R (re' (rq R)))
theorem D1a {l texts atV1 i res}(a:Hc l texts atV1 i=some res):Ox l texts atV1 i res:=(C18 l texts) _ _ _ a
def Fl (l:List I0)(atV:Int)(texts:List Str):Option (Int×Bool):=
 Hc l texts atV 0
theorem B12 {l atV texts res}(a:Fl l atV texts=some res):L0 C 179 [.d (.sl (I0.rows l)),.d (.int .i64 atV),.d (.sl (estr.rows texts))] [] (Ret [] (.tup [.d (.int .i64 res.1),.d (.bool res.2)])):=by
 unfold Fl at a
 exact L0.intro hC Tryz.func179 R R R (t' R (S' (t' R (bk' (fq (D1a a) R)))))
def Bf (l:List I0)(atV:Int):Option Bool:=
 S8 l atV>>=fun x1=>
 (if (!x1.2.2)=true then B1 l atV [111,117,116,112,117,116] else some default)>>=fun x2=>
 (if (!(bif x1.2.2 then true else x2))=true then B1 l atV [119,97,105,116] else some default)>>=fun x3=>
 (if (!(bif (bif x1.2.2 then true else x2) then true else x3))=true then B1 l atV [105,102] else some default)>>=fun x4=>
 (if (!(bif (bif (bif x1.2.2 then true else x2) then true else x3) then true else x4))=true then B1 l atV [119,104,105,108,101] else some default)>>=fun x5=>
 (if (!(bif (bif (bif (bif x1.2.2 then true else x2) then true else x3) then true else x4) then true else x5))=true then B1 l atV [102,111,114] else some default)>>=fun x6=>
 (if (!(bif (bif (bif (bif (bif x1.2.2 then true else x2) then true else x3) then true else x4) then true else x5) then true else x6))=true then B1 l atV [115,101,116,116,108,101] else some default)>>=fun x7=>
 some (bif (bif (bif (bif (bif (bif x1.2.2 then true else x2) then true else x3) then true else x4) then true else x5) then true else x6) then true else x7)
theorem Z1d {l atV res}(a:Bf l atV=some res):L0 C 119 [.d (.sl (I0.rows l)),.d (.int .i64 atV)] [] (Ret [] (.d (.bool res))):=by
 unfold Bf at a
 obtain ⟨x1,j,a⟩:=bs' a
 obtain ⟨x2,h,a⟩:=bs' a
 obtain ⟨p,f,a⟩:=bs' a
 obtain ⟨m,g,a⟩:=bs' a
 obtain ⟨o,k,a⟩:=bs' a
 obtain ⟨q,i,a⟩:=bs' a
 obtain ⟨n,e,a⟩:=bs' a
 cases a
 refine L0.intro hC Tryz.func119 R R R (t' R (p' 2 R (cq (V9 j) R (e' R (sg' 32 R (G' 4 R (AG.c R R (fun hg=>⟨hg,hg,trivial⟩) (fun b=>W0 (G1 b h)) (po' R (G' 3 R (AG.c R R (fun hg=>⟨hg,hg,trivial⟩) (fun b=>W0 (G1 b f)) (po' R (G' 3 R (AG.c R R (fun hg=>⟨hg,hg,trivial⟩) (fun b=>W0 (G1 b g)) ?_)))))))))))))
 exact po' R (G' 3 R (AG.c R R (fun hg=>⟨hg,hg,trivial⟩) (fun b=>W0 (G1 b k)) (po' R (G' 3 R (AG.c R R (fun hg=>⟨hg,hg,trivial⟩) (fun b=>W0 (G1 b i)) (po' R (G' 3 R (AG.c R R (fun hg=>⟨hg,hg,trivial⟩) (fun b=>W0 (G1 b e)) (po' R (a0' R (an' (n' (re' (rq R))))))))))))))
def En (op:Int)(a:A0)(b:A0):Option A0:=
 some (A0.mk op 0 [] [a,b])
theorem Pu {op a b res}(c:En op a b=some res):L0 C 212 [.d (.int .i64 op),.agg (A0.cells a),.agg (A0.cells b)] [] (Ret [] (.agg (A0.cells res))):=by
 unfold En at c
 refine L0.intro hC Tryz.func212 R R R (s' R R (E0.n hC R (E0.n hC R (E0.nf hC R (n' (p' 3 R (E0.be hC R (A0.rows_map [a,b]).symm (q' R (E0.s hC R (n' (re' ?_)))))))))))
 have e:=oi' c
 subst e
 exact ⟨_,.agg [.d (.int .i64 op),.d (.int .i64 0),.d (.str []),.d (.sl (A0.rows [a,b]))],[],R,(.aggL ⟨.rfl,.rfl,.rfl,.full,trivial⟩),trivial,R,R,R,R⟩
def T4 (l:List I0)(atV:Int)(level:Int):Option (Int×Bool):=
 (if (!(decide (atV≥((l).length:Int))))=true then idx l atV else some default)>>=fun x1=>
 if (bif (decide (atV≥((l).length:Int))) then true else (x1.Kind != 3))=true then
  some (0,false)
 else
  idx l atV>>=fun x2=>
  if (x2.Text == [124,124])=true then
   some (20,(1 == level))
  else
   if (x2.Text == [38,38])=true then
    some (19,(2 == level))
   else
    if (x2.Text == [61,61])=true then
     some (13,(3 == level))
    else
     if (x2.Text == [33,61])=true then
      some (14,(3 == level))
     else
      if (x2.Text == [60])=true then
       some (15,(3 == level))
      else
       if (x2.Text == [60,61])=true then
        some (16,(3 == level))
       else
        if (x2.Text == [62])=true then
         some (17,(3 == level))
        else
         if (x2.Text == [62,61])=true then
          some (18,(3 == level))
         else
          if (x2.Text == [43])=true then
           some (8,(4 == level))
          else
           if (x2.Text == [45])=true then
            some (9,(4 == level))
           else
            if (x2.Text == [42])=true then
             some (10,(5 == level))
            else
             if (x2.Text == [47])=true then
              some (11,(5 == level))
             else
              if (x2.Text == [37])=true then
               some (12,(5 == level))
              else
               some (0,(0 == level))
theorem A1e {l atV level res}(a:T4 l atV level=some res):L0 C 211 [.d (.sl (I0.rows l)),.d (.int .i64 atV),.d (.int .i64 level)] [] (Ret [] (.tup [.d (.int .i64 res.1),.d (.bool res.2)])):=by
 unfold T4 at a
 obtain ⟨x1,c,a⟩:=bs' a
 refine L0.intro hC Tryz.func211 R R R (t' R (S' (sg' 12 R (G' 2 R (AG.qe hC R (fun hg=>⟨trivial,trivial⟩) (I0.lenA _) (G' 4 R (AG.i hC R R (fun hg=>⟨hg,hg,trivial⟩) (fun e=>⟨D1 (G1 e c),I0.idx (G1 e c),R⟩) (a1' R (a1' R (a1' R (po' R (an' (n' (ci' R a (fun a=>?_) (fun a=>?_)))))))))))))))
 ·cases a
  exact t' R (re' (rq R))
 obtain ⟨x2,b,a⟩:=bs' a
 refine sk' (t' R (S' (p' 2 R (i' R (D1 b) (I0.idx b) R (e' R (bk' (t' R (ci' R a (fun a=>?_) (fun a=>?_)))))))))
 ·cases a
  exact T' R (t' R (re' (rq R)))
 refine t' R (ci' R a (fun a=>?_) (fun a=>?_))
 ·cases a
  exact T' R (t' R (re' (rq R)))
 refine t' R (ci' R a (fun a=>?_) (fun a=>?_))
 ·cases a
  exact T' R (t' R (re' (rq R)))
 refine t' R (ci' R a (fun a=>?_) (fun a=>?_))
 ·cases a
  exact T' R (t' R (re' (rq R)))
 refine t' R (ci' R a (fun a=>?_) (fun a=>?_))
 ·cases a
  exact T' R (t' R (re' (rq R)))
 refine t' R (ci' R a (fun a=>?_) (fun a=>?_))
 ·cases a
  exact T' R (t' R (re' (rq R)))
 refine t' R (ci' R a (fun a=>?_) (fun a=>?_))
 ·cases a
  exact T' R (t' R (re' (rq R)))
 refine t' R (ci' R a (fun a=>?_) (fun a=>?_))
 ·cases a
  exact T' R (t' R (re' (rq R)))
 refine t' R (ci' R a (fun a=>?_) (fun a=>?_))
 ·cases a
  exact T' R (t' R (re' (rq R)))
 refine t' R (ci' R a (fun a=>?_) (fun a=>?_))
 ·cases a
  exact T' R (t' R (re' (rq R)))
 refine t' R (ci' R a (fun a=>?_) (fun a=>?_))
 ·cases a
  exact T' R (t' R (re' (rq R)))
 refine t' R (ci' R a (fun a=>?_) (fun a=>?_))
 ·cases a
  exact T' R (t' R (re' (rq R)))
 refine t' R (ci' R a (fun a=>?_) (fun a=>?_))
 ·cases a
  exact T' R (t' R (re' (rq R)))
 cases a
 exact sk' (t' R (re' (rq R)))
mutual
def W1 (l:List I0)(atV:Int):Option (A0×Int×Bool):=
 O1 l atV 1>>=fun x1=>
 (if (!(!x1.2.2))=true then B1 l x1.2.1 [63] else some default)>>=fun x2=>
 if (bif (!x1.2.2) then true else (!x2))=true then
  some (x1.1,x1.2.1,x1.2.2)
 else
  W1 l (IntKind.i64.wrap (x1.2.1+1))>>=fun x3=>
  if (!x3.2.2)=true then
   some (x3.1,x3.2.1,false)
  else
   B1 l x3.2.1 [58]>>=fun x4=>
   if (!x4)=true then
    some (x3.1,x3.2.1,false)
   else
    W1 l (IntKind.i64.wrap (x3.2.1+1))>>=fun x5=>
    if (!x5.2.2)=true then
     some (x5.1,x5.2.1,false)
    else
     some ((A0.mk 23 0 [] [x1.1,x3.1,x5.1]),x5.2.1,true)
 partial_fixpoint
def O1 (l:List I0)(atV:Int)(n:Int):Option (A0×Int×Bool):=
 if (n == 6)=true then
  U3 l atV>>=fun x1=>
  some (x1.1,x1.2.1,x1.2.2)
 else
  O1 l atV (IntKind.i64.wrap (n+1))>>=fun x2=>
  if (!x2.2.2)=true then
   some (x2.1,x2.2.1,false)
  else
   X1 l n x2.1 x2.2.1
 partial_fixpoint
def X1 (l:List I0)(n:Int)(o1:A0)(atV1:Int):Option (A0×Int×Bool):=
 T4 l atV1 n>>=fun x3=>
 if (!x3.2)=true then
  some (o1,atV1,true)
 else
  O1 l (IntKind.i64.wrap (atV1+1)) (IntKind.i64.wrap (n+1))>>=fun x4=>
  if (!x4.2.2)=true then
   some (x4.1,x4.2.1,false)
  else
   En x3.1 o1 x4.1>>=fun x5=>
   if (n == 3)=true then
    some (x5,x4.2.1,true)
   else
    X1 l n x5 x4.2.1
 partial_fixpoint
def U3 (l:List I0)(atV:Int):Option (A0×Int×Bool):=
 B1 l atV [45]>>=fun x1=>
 (if (!x1)=true then B1 l atV [33] else some default)>>=fun x2=>
 if (bif (!x1) then (!x2) else false)=true then
  H5 l atV>>=fun x3=>
  some (x3.1,x3.2.1,x3.2.2)
 else
  B1 l atV [33]>>=fun x4=>
  if x4=true then
   Fe l atV 7
  else
   Fe l atV 6
 partial_fixpoint
def Fe (l:List I0)(atV:Int)(op:Int):Option (A0×Int×Bool):=
 U3 l (IntKind.i64.wrap (atV+1))>>=fun x5=>
 if (!x5.2.2)=true then
  some (x5.1,x5.2.1,false)
 else
  some ((A0.mk op 0 [] [x5.1]),x5.2.1,true)
 partial_fixpoint
def H5 (l:List I0)(atV:Int):Option (A0×Int×Bool):=
 B1 l atV [116,114,117,101]>>=fun x1=>
 if x1=true then
  some ((A0.mk 1 0 [] []),(IntKind.i64.wrap (atV+1)),true)
 else
  B1 l atV [102,97,108,115,101]>>=fun x2=>
  if x2=true then
   some ((A0.mk 2 0 [] []),(IntKind.i64.wrap (atV+1)),true)
  else
   B1 l atV [109,105,110]>>=fun x3=>
   (if (!x3)=true then B1 l atV [109,97,120] else some default)>>=fun x4=>
   if (bif x3 then true else x4)=true then
    Lh l atV>>=fun x5=>
    some (x5.1,x5.2.1,x5.2.2)
   else
    B1 l atV [40]>>=fun x6=>
    if x6=true then
     W1 l (IntKind.i64.wrap (atV+1))>>=fun x9=>
     (if (!(!x9.2.2))=true then B1 l x9.2.1 [41] else some default)>>=fun x10=>
     if (bif (!x9.2.2) then true else (!x10))=true then
      some (x9.1,x9.2.1,false)
     else
      some (x9.1,(IntKind.i64.wrap (x9.2.1+1)),true)
    else
     Xg l atV>>=fun x7=>
     if x7.2.2=true then
      some ((A0.mk 0 x7.1 [] []),x7.2.1,true)
     else
      F7 l atV>>=fun x8=>
      some (x8.1,x8.2.1,x8.2.2)
 partial_fixpoint
def F7 (l:List I0)(atV:Int):Option (A0×Int×Bool):=
 S8 l atV>>=fun x1=>
 if (!x1.2.2)=true then
  some ((A0.mk 0 0 [] []),x1.2.1,false)
 else
  A5 l 3 0 x1.1 [] x1.2.1
 partial_fixpoint
def A5 (l:List I0)(o1_Op:Int)(o1_NV:Int)(o1_Name:Str)(o1_Kids:List A0)(atV1:Int):Option (A0×Int×Bool):=
 B1 l atV1 [46]>>=fun x2=>
 (if (!x2)=true then B1 l atV1 [91] else some default)>>=fun x3=>
 if (bif x2 then true else x3)=true then
  B1 l atV1 [46]>>=fun x4=>
  if x4=true then
   S8 l (IntKind.i64.wrap (atV1+1))>>=fun x5=>
   if (!x5.2.2)=true then
    some ((A0.mk o1_Op o1_NV o1_Name o1_Kids),x5.2.1,false)
   else
    A5 l 4 0 x5.1 [(A0.mk o1_Op o1_NV o1_Name o1_Kids)] x5.2.1
  else
   W1 l (IntKind.i64.wrap (atV1+1))>>=fun x6=>
   (if (!(!x6.2.2))=true then B1 l x6.2.1 [93] else some default)>>=fun x7=>
   if (bif (!x6.2.2) then true else (!x7))=true then
    some (x6.1,x6.2.1,false)
   else
    En 5 (A0.mk o1_Op o1_NV o1_Name o1_Kids) x6.1>>=fun x8=>
    A5 l x8.Op x8.NV x8.Name x8.Kids (IntKind.i64.wrap (x6.2.1+1))
 else
  some ((A0.mk o1_Op o1_NV o1_Name o1_Kids),atV1,true)
 partial_fixpoint
def Lh (l:List I0)(atV:Int):Option (A0×Int×Bool):=
 B1 l atV [109,97,120]>>=fun x1=>
 if x1=true then
  Ub l atV 22
 else
  Ub l atV 21
 partial_fixpoint
def Ub (l:List I0)(atV:Int)(op:Int):Option (A0×Int×Bool):=
 B1 l (IntKind.i64.wrap (atV+1)) [40]>>=fun x2=>
 if (!x2)=true then
  some ((A0.mk 0 0 [] []),(IntKind.i64.wrap (atV+1)),false)
 else
  W1 l (IntKind.i64.wrap (atV+2))>>=fun x3=>
  (if (!(!x3.2.2))=true then B1 l x3.2.1 [44] else some default)>>=fun x4=>
  if (bif (!x3.2.2) then true else (!x4))=true then
   some (x3.1,x3.2.1,false)
  else
   W1 l (IntKind.i64.wrap (x3.2.1+1))>>=fun x5=>
   (if (!(!x5.2.2))=true then B1 l x5.2.1 [41] else some default)>>=fun x6=>
   if (bif (!x5.2.2) then true else (!x6))=true then
    some (x5.1,x5.2.1,false)
   else
    En op x3.1 x5.1>>=fun x7=>
    some (x7,(IntKind.i64.wrap (x5.2.1+1)),true)
 partial_fixpoint
end
abbrev Zt (l:List I0)(atV:Int)(res:A0×Int×Bool):Prop:=L0 C 118 [.d (.sl (I0.rows l)),.d (.int .i64 atV)] [] (Ret [] (.tup [.agg (A0.cells res.1),.d (.int .i64 res.2.1),.d (.bool res.2.2)]))
abbrev H1i (l:List I0)(atV:Int)(n:Int)(res:A0×Int×Bool):Prop:=L0 C 183 [.d (.sl (I0.rows l)),.d (.int .i64 atV),.d (.int .i64 n)] [] (Ret [] (.tup [.agg (A0.cells res.1),.d (.int .i64 res.2.1),.d (.bool res.2.2)]))
abbrev T1b (l:List I0)(n:Int)(o1:A0)(atV1:Int)(res:A0×Int×Bool):Prop:=LM C 71 0 Tryz.f183 [1,1,1,1,4] [(0,.d (.sl (I0.rows l))),(1,.d (.int .i64 atV1)),(2,.d (.int .i64 n)),(6,.ref 0 0),(9,.ref 1 0)] [.row [.d (.int .i64 0),.d (.int .i64 0),.d (.str []),.full (A0.rows [])] 80,.row (A0.cells o1) 80] (Ret [] (.tup [.agg (A0.cells res.1),.d (.int .i64 res.2.1),.d (.bool res.2.2)]))
abbrev I1i (l:List I0)(atV:Int)(res:A0×Int×Bool):Prop:=L0 C 210 [.d (.sl (I0.rows l)),.d (.int .i64 atV)] [] (Ret [] (.tup [.agg (A0.cells res.1),.d (.int .i64 res.2.1),.d (.bool res.2.2)]))
abbrev U1b (l:List I0)(atV:Int)(op:Int)(res:A0×Int×Bool):Prop:=JM C 46 0 Tryz.f210 [1,1,1,1] [(0,.d (.sl (I0.rows l))),(1,.d (.int .i64 atV)),(4,.ref 0 0),(7,.d (.int .i64 op))] [.row [.d (.int .i64 0),.d (.int .i64 0),.d (.str []),.full (A0.rows [])] 80] (Ret [] (.tup [.agg (A0.cells res.1),.d (.int .i64 res.2.1),.d (.bool res.2.2)]))
abbrev B1e (l:List I0)(atV:Int)(res:A0×Int×Bool):Prop:=L0 C 226 [.d (.sl (I0.rows l)),.d (.int .i64 atV)] [] (Ret [] (.tup [.agg (A0.cells res.1),.d (.int .i64 res.2.1),.d (.bool res.2.2)]))
abbrev N15 (l:List I0)(atV:Int)(res:A0×Int×Bool):Prop:=L0 C 214 [.d (.sl (I0.rows l)),.d (.int .i64 atV)] [] (Ret [] (.tup [.agg (A0.cells res.1),.d (.int .i64 res.2.1),.d (.bool res.2.2)]))
abbrev V1b (l:List I0)(o1_Op:Int)(o1_NV:Int)(o1_Name:Str)(o1_Kids:List A0)(atV1:Int)(res:A0×Int×Bool):Prop:=LM C 82 0 Tryz.f214 [1,1,1,1,0,4] [(0,.d (.sl (I0.rows l))),(1,.d (.int .i64 atV1)),(4,.ref 0 0),(9,.ref 1 0)] [.row [.d (.int .i64 0),.d (.int .i64 0),.d (.str []),.full (A0.rows [])] 80,.row [.d (.int .i64 o1_Op),.d (.int .i64 o1_NV),.d (.str o1_Name),.d (.sl (A0.rows o1_Kids))] 80] (Ret [] (.tup [.agg (A0.cells res.1),.d (.int .i64 res.2.1),.d (.bool res.2.2)]))
abbrev C1e (l:List I0)(atV:Int)(res:A0×Int×Bool):Prop:=L0 C 231 [.d (.sl (I0.rows l)),.d (.int .i64 atV)] [] (Ret [] (.tup [.agg (A0.cells res.1),.d (.int .i64 res.2.1),.d (.bool res.2.2)]))
abbrev D18 (l:List I0)(atV:Int)(op:Int)(res:A0×Int×Bool):Prop:=JM C 64 0 Tryz.f231 [1,1,1] [(0,.d (.sl (I0.rows l))),(1,.d (.int .i64 atV)),(4,.ref 0 0),(7,.d (.int .i64 op))] [.row [.d (.int .i64 0),.d (.int .i64 0),.d (.str []),.full (A0.rows [])] 80] (Ret [] (.tup [.agg (A0.cells res.1),.d (.int .i64 res.2.1),.d (.bool res.2.2)]))
theorem Gq (l:List I0):(∀ e b,W1 l e=some b→Zt l e b)∧(∀ e n b,O1 l e n=some b→H1i l e n b)∧(∀ n L o b,X1 l n L o=some b→T1b l n L o b)∧(∀ e b,U3 l e=some b→I1i l e b)∧(∀ e op b,Fe l e op=some b→U1b l e op b)∧(∀ e b,H5 l e=some b→B1e l e b)∧(∀ e b,F7 l e=some b→N15 l e b)∧(∀ r p g f o b,A5 l r p g f o=some b→V1b l r p g f o b)∧(∀ e b,Lh l e=some b→C1e l e b)∧(∀ e op b,Ub l e op=some b→D18 l e op b):=by
 refine W1.mutual_partial_correctness l _ _ _ _ _ _ _ _ _ _ ?_ ?_ ?_ ?_ ?_ ?_ ?_ ?_ ?_ ?_
 ·intro K Q q x e b a
  obtain ⟨x1,m,a⟩:=bs' a
  obtain ⟨x2,k,a⟩:=bs' a
  refine L0.intro hC Tryz.func118 R R R (s' R R (E0.nf hC R (e' R (p' 2 R (cq (x _ _ _ m) R (o' 4 R (E0.nf hC R (E0.s hC R (e' R (S' (sg' 8 R (G' 5 R (AG.c R R (fun hg=>⟨hg,hg,trivial⟩) (fun t=>W0 (G1 t k)) ?_)))))))))))))
  refine a1' R (po' R (an' (n' (ci' R a (fun a=>?_) (fun a=>?_)))))
  ·cases a
   exact p' 3 R (E0.s hC R (e' R (re' (rq R))))
  obtain ⟨B,i,a⟩:=bs' a
  refine sk' (p' 3 R (cq (q _ _ i) R (o' 4 R (E0.nf hC R (E0.s hC R (e' R (S' (t' R (ci' R a (fun a=>?_) (fun a=>?_))))))))))
  ·cases a
   exact p' 2 R (E0.s hC R (e' R (re' (rq R))))
  obtain ⟨D,j,a⟩:=bs' a
  refine sk' (S' (p' 2 R (cq (W0 j) R (e' R (ci' R a (fun a=>?_) (fun a=>?_))))))
  ·cases a
   exact p' 2 R (E0.s hC R (e' R (re' (rq R))))
  obtain ⟨v,h,a⟩:=bs' a
  refine sk' (p' 3 R (cq (q _ _ h) R (o' 4 R (E0.nf hC R (E0.s hC R (e' R (S' (t' R (ci' R a (fun a=>?_) (fun a=>?_))))))))))
  ·cases a
   exact p' 2 R (E0.s hC R (e' R (re' (rq R))))
  refine sk' (p' 3 R (E0.be hC R (A0.rows_map [x1.1,B.1,v.1]).symm (o' 2 R (E0.s hC R (e' R (re' ?_))))))
  have H:=oi' a
  subst H
  exact ⟨_,.tup [.agg [.d (.int .i64 23),.d (.int .i64 0),.d (.str []),.d (.sl (A0.rows [x1.1,B.1,v.1]))],.d (.int .i64 v.2.1),.d (.bool true)],[],R,(.tupL ⟨(.aggL ⟨.rfl,.rfl,.rfl,.full,trivial⟩),.rfl,.rfl,trivial⟩),trivial,R,R,R,R⟩
 ·intro Q U S x z A e n b a
  refine L0.intro hC Tryz.func183 R R R (s' R R (E0.nf hC R (e' R (S' (t' R (ci' R a (fun a=>?_) (fun a=>?_)))))))
  ·obtain ⟨x1,m,a⟩:=bs' a
   cases a
   exact p' 2 R (cq (A _ _ m) R (o' 3 R (E0.s hC R (e' R (re' (rq R))))))
  obtain ⟨x2,k,a⟩:=bs' a
  refine sk' (p' 4 R (cq (x _ _ _ k) R (o' 4 R (E0.nf hC R (E0.s hC R (e' R (S' (t' R (ci' R a (fun a=>?_) (fun a=>?_))))))))))
  ·cases a
   exact p' 2 R (E0.s hC R (e' R (re' (rq R))))
  exact sk' (bk' (fq (z _ _ _ _ a) R))
 ·intro Q U x z n L o b a
  obtain ⟨B,i,a⟩:=bs' a
  refine Y0.unroll (bk' (p' 3 R (cq (A1e i) R (e' R (S' (t' R (ci' R a (fun a=>?_) (fun a=>?_))))))))
  ·cases a
   exact p' 2 R (E0.s hC R (e' R (re' (rq R))))
  obtain ⟨D,j,a⟩:=bs' a
  refine sk' (p' 5 R (cq (x _ _ _ j) R (o' 4 R (E0.nf hC R (E0.s hC R (e' R (S' (t' R (ci' R a (fun a=>?_) (fun a=>?_))))))))))
  ·cases a
   exact p' 2 R (E0.s hC R (e' R (re' (rq R))))
  obtain ⟨v,h,a⟩:=bs' a
  refine sk' (p' 3 R (cq (Pu h) R (q' R (E0.s hC R (e' R (t' R (ci' R a (fun a=>?_) (fun a=>?_))))))))
  ·cases a
   exact p' 2 R (E0.s hC R (e' R (re' (rq R))))
  exact sk' (lq (z _ _ _ _ a) R)
 ·intro g4 Z G N e b a
  obtain ⟨x1,m,a⟩:=bs' a
  obtain ⟨x2,k,a⟩:=bs' a
  refine L0.intro hC Tryz.func210 R R R (s' R R (E0.nf hC R (e' R (S' (sg' 10 R (G' 2 R (AG.c R R (fun _=>trivial) (fun _=>W0 m) (G' 4 R (AG.c R R (fun hg=>⟨hg,hg,trivial⟩) (fun t=>W0 (G1 t k)) (a1' R (pa' R (an' (n' (ci' R a (fun a=>?_) (fun a=>?_)))))))))))))))
  ·obtain ⟨B,i,a⟩:=bs' a
   cases a
   exact p' 2 R (cq (N _ _ i) R (o' 3 R (E0.s hC R (e' R (re' (rq R))))))
  obtain ⟨D,j,a⟩:=bs' a
  refine sk' (t' R (S' (p' 2 R (cq (W0 j) R (n' (ci' R a (fun a=>?_) (fun a=>?_)))))))
  ·exact T' R (eq' (G _ _ _ a) R)
  exact sk' (eq' (G _ _ _ a) R)
 ·intro S A e op b a
  obtain ⟨v,h,a⟩:=bs' a
  refine p' 3 R (cq (A _ _ h) R (o' 4 R (E0.nf hC R (E0.s hC R (e' R (S' (t' R (ci' R a (fun a=>?_) (fun a=>?_)))))))))
  ·cases a
   exact p' 2 R (E0.s hC R (e' R (re' (rq R))))
  refine sk' (p' 2 R (E0.be hC R (A0.rows_map [v.1]).symm (o' 2 R (E0.s hC R (e' R (re' ?_))))))
  have H:=oi' a
  subst H
  exact ⟨_,.tup [.agg [.d (.int .i64 op),.d (.int .i64 0),.d (.str []),.d (.sl (A0.rows [v.1]))],.d (.int .i64 v.2.1),.d (.bool true)],[],R,(.tupL ⟨(.aggL ⟨.rfl,.rfl,.rfl,.full,trivial⟩),.rfl,.rfl,trivial⟩),trivial,R,R,R,R⟩
 ·intro K g6 X q M I e b a
  obtain ⟨x1,m,a⟩:=bs' a
  refine L0.intro hC Tryz.func226 R R R (s' R R (E0.nf hC R (e' R (S' (p' 2 R (cq (W0 m) R (n' (ci' R a (fun a=>?_) (fun a=>?_)))))))))
  ·cases a
   exact p' 3 R (E0.s hC R (e' R (re' (rq R))))
  obtain ⟨x2,k,a⟩:=bs' a
  refine sk' (S' (p' 2 R (cq (W0 k) R (n' (ci' R a (fun a=>?_) (fun a=>?_))))))
  ·cases a
   exact p' 3 R (E0.s hC R (e' R (re' (rq R))))
  obtain ⟨B,i,a⟩:=bs' a
  obtain ⟨D,j,a⟩:=bs' a
  refine sk' (S' (sg' 8 R (G' 2 R (AG.c R R (fun _=>trivial) (fun _=>W0 i) (G' 3 R (AG.c R R (fun hg=>⟨hg,hg,trivial⟩) (fun t=>W0 (G1 t j)) (po' R (an' (n' (ci' R a (fun a=>?_) (fun a=>?_)))))))))))
  ·obtain ⟨v,h,a⟩:=bs' a
   cases a
   exact p' 2 R (cq (I _ _ h) R (o' 3 R (E0.s hC R (e' R (re' (rq R))))))
  obtain ⟨O,w,a⟩:=bs' a
  refine sk' (S' (p' 2 R (cq (W0 w) R (n' (ci' R a (fun a=>?_) (fun a=>?_))))))
  ·obtain ⟨Y,J,a⟩:=bs' a
   obtain ⟨V,F,a⟩:=bs' a
   refine p' 3 R (cq (q _ _ J) R (o' 4 R (E0.nf hC R (E0.s hC R (e' R (S' (sg' 8 R (G' 5 R (AG.c R R (fun hg=>⟨hg,hg,trivial⟩) (fun t=>W0 (G1 t F)) (a1' R (po' R (an' (n' (ci' R a (fun a=>?_) (fun a=>?_)))))))))))))))
   ·cases a
    exact p' 2 R (E0.s hC R (e' R (re' (rq R))))
   cases a
   exact sk' (p' 3 R (E0.s hC R (e' R (re' (rq R)))))
  obtain ⟨P,u,a⟩:=bs' a
  refine sk' (p' 2 R (cq (Dq u) R (e' R (S' (t' R (ci' R a (fun a=>?_) (fun a=>?_)))))))
  ·cases a
   exact p' 3 R (E0.s hC R (e' R (re' (rq R))))
  obtain ⟨W,C,a⟩:=bs' a
  cases a
  exact sk' (p' 2 R (cq (M _ _ C) R (o' 3 R (E0.s hC R (e' R (re' (rq R)))))))
 ·intro T y e b a
  obtain ⟨x1,m,a⟩:=bs' a
  refine L0.intro hC Tryz.func214 R R R (s' R R (E0.nf hC R (e' R (p' 2 R (cq (V9 m) R (e' R (S' (t' R (ci' R a (fun a=>?_) (fun a=>?_))))))))))
  ·cases a
   exact p' 2 R (E0.s hC R (e' R (re' (rq R))))
  exact sk' (p' 2 R (E0.nf hC R (E0.s hC R (n' (S' (bk' (fq (y _ _ _ _ _ _ a) R)))))))
 ·intro K T q y r p g f o b a
  obtain ⟨x2,k,a⟩:=bs' a
  obtain ⟨B,i,a⟩:=bs' a
  refine Y0.unroll (S' (sg' 8 R (G' 2 R (AG.c R R (fun _=>trivial) (fun _=>W0 k) (G' 3 R (AG.c R R (fun hg=>⟨hg,hg,trivial⟩) (fun t=>W0 (G1 t i)) (po' R (an' (n' (ci' R a (fun a=>?_) (fun a=>?_)))))))))))
  ·obtain ⟨D,j,a⟩:=bs' a
   refine sk' (bk' (S' (p' 2 R (cq (W0 j) R (n' (ci' R a (fun a=>?_) (fun a=>?_)))))))
   ·obtain ⟨v,h,a⟩:=bs' a
    refine p' 3 R (cq (V9 h) R (e' R (S' (t' R (ci' R a (fun a=>?_) (fun a=>?_))))))
    ·cases a
     exact p' 2 R (E0.s hC R (e' R (re' (rq R))))
    refine sk' (p' 2 R (E0.be hC R (A0.rows_map [(A0.mk r p g f)]).symm (o' 2 R (E0.s hC R (e' R (ex' ?_))))))
    refine Y0.wk ?_ (y _ _ _ _ _ _ a)
    exact ⟨⟨⟨.rfl,R⟩,⟨.rfl,R⟩,⟨.rfl,R⟩,⟨.rfl,R⟩,trivial⟩,⟨⟨R,.refl _,R⟩,⟨R,⟨.rfl,.rfl,.rfl,.full,trivial⟩,R⟩,trivial⟩,R⟩
   obtain ⟨O,w,a⟩:=bs' a
   obtain ⟨P,u,a⟩:=bs' a
   refine sk' (p' 3 R (cq (q _ _ w) R (o' 4 R (E0.nf hC R (E0.s hC R (e' R (S' (sg' 8 R (G' 5 R (AG.c R R (fun hg=>⟨hg,hg,trivial⟩) (fun t=>W0 (G1 t u)) (a1' R (po' R (an' ?_)))))))))))))
   refine n' (ci' R a (fun a=>?_) (fun a=>?_))
   ·cases a
    exact p' 2 R (E0.s hC R (e' R (re' (rq R))))
   obtain ⟨W,C,a⟩:=bs' a
   exact sk' (P' 2 R (cq (Pu C) R (o' 2 R (E0.s hC R (e' R (lq (y _ _ _ _ _ _ a) R))))))
  cases a
  exact ex' (p' 2 R (E0.s hC R (e' R (re' (rq R)))))
 ·intro g9 E e b a
  obtain ⟨x1,m,a⟩:=bs' a
  refine L0.intro hC Tryz.func231 R R R (s' R R (E0.nf hC R (e' R (t' R (S' (p' 2 R (cq (W0 m) R (n' (ci' R a (fun a=>?_) (fun a=>?_))))))))))
  ·exact T' R (eq' (E _ _ _ a) R)
  exact sk' (eq' (E _ _ _ a) R)
 ·intro K q e op b a
  obtain ⟨x2,k,a⟩:=bs' a
  refine S' (p' 3 R (cq (W0 k) R (e' R (ci' R a (fun a=>?_) (fun a=>?_)))))
  ·cases a
   exact p' 3 R (E0.s hC R (e' R (re' (rq R))))
  obtain ⟨B,i,a⟩:=bs' a
  obtain ⟨D,j,a⟩:=bs' a
  refine sk' (p' 3 R (cq (q _ _ i) R (o' 4 R (E0.nf hC R (E0.s hC R (e' R (S' (sg' 8 R (G' 5 R (AG.c R R (fun hg=>⟨hg,hg,trivial⟩) (fun t=>W0 (G1 t j)) (a1' R (po' R (an' ?_)))))))))))))
  refine n' (ci' R a (fun a=>?_) (fun a=>?_))
  ·cases a
   exact p' 2 R (E0.s hC R (e' R (re' (rq R))))
  obtain ⟨v,h,a⟩:=bs' a
  obtain ⟨O,w,a⟩:=bs' a
  refine sk' (p' 3 R (cq (q _ _ h) R (o' 4 R (E0.nf hC R (E0.s hC R (e' R (S' (sg' 8 R (G' 5 R (AG.c R R (fun hg=>⟨hg,hg,trivial⟩) (fun t=>W0 (G1 t w)) (a1' R (po' R (an' ?_)))))))))))))
  refine n' (ci' R a (fun a=>?_) (fun a=>?_))
  ·cases a
   exact p' 2 R (E0.s hC R (e' R (re' (rq R))))
  obtain ⟨P,u,a⟩:=bs' a
  cases a
  exact sk' (p' 3 R (cq (Pu u) R (o' 2 R (E0.s hC R (e' R (re' (rq R)))))))
theorem P8 {l atV res}(a:W1 l atV=some res):Zt l atV res:=(Gq l).1 _ _ a
theorem M1f {l atV res}(a:F7 l atV=some res):N15 l atV res:=(Gq l).2.2.2.2.2.2.1 _ _ a
def J7 (l:List I0)(o1_Verb:Int)(o1_Place:A0)(o1_Value:A0)(o1_Name:Str)(o1_Args:List A0)(o1_NV:Int)(o1_Low:Int)(o1_High:Int)(o1_Numbers:List Int)(o1_Then:List C0)(o1_Else:List C0)(atV1:Int)(ok:Bool):Option (C0×Int×Bool):=
 (if (!(!ok))=true then B1 l atV1 [59] else some default)>>=fun x9=>
 if (bif (!ok) then true else (!x9))=true then
  some ((C0.mk o1_Verb o1_Place o1_Value o1_Name o1_Args o1_NV o1_Low o1_High o1_Numbers o1_Then o1_Else),atV1,false)
 else
  some ((C0.mk o1_Verb o1_Place o1_Value o1_Name o1_Args o1_NV o1_Low o1_High o1_Numbers o1_Then o1_Else),(IntKind.i64.wrap (atV1+1)),true)
theorem Pf {l o1_Verb o1_Place o1_Value o1_Name o1_Args o1_NV o1_Low o1_High o1_Numbers o1_Then o1_Else atV1 ok res}(a:J7 l o1_Verb o1_Place o1_Value o1_Name o1_Args o1_NV o1_Low o1_High o1_Numbers o1_Then o1_Else atV1 ok=some res):JM C 105 0 Tryz.f120 [1,1,1,1] [(0,.d (.sl (I0.rows l))),(1,.d (.int .i64 atV1)),(4,.ref 0 0),(7,.ref 1 0),(8,.d (.bool ok))] [.row [.d (.int .i64 0),.d (.int .i64 0),.d (.int .i64 0),.d (.str []),.full (A0.rows []),.d (.int .i64 0),.d (.int .i64 0),.d (.str []),.full (A0.rows []),.d (.str []),.full (A0.rows []),.d (.int .i64 0),.d (.int .i64 0),.d (.int .i64 0),.full (ei64.rows []),.full (C0.rows []),.full (C0.rows [])] 88,.row [.d (.int .i64 o1_Verb),.d (.int .i64 o1_Place.Op),.d (.int .i64 o1_Place.NV),.d (.str o1_Place.Name),.d (.sl (A0.rows o1_Place.Kids)),.d (.int .i64 o1_Value.Op),.d (.int .i64 o1_Value.NV),.d (.str o1_Value.Name),.d (.sl (A0.rows o1_Value.Kids)),.d (.str o1_Name),.d (.sl (A0.rows o1_Args)),.d (.int .i64 o1_NV),.d (.int .i64 o1_Low),.d (.int .i64 o1_High),.d (.sl (ei64.rows o1_Numbers)),.d (.sl (C0.rows o1_Then)),.d (.sl (C0.rows o1_Else))] 88] (Ret [] (.tup [.agg (C0.cells res.1),.d (.int .i64 res.2.1),.d (.bool res.2.2)])):=by
 unfold J7 at a
 obtain ⟨f,b,a⟩:=bs' a
 refine S' (sg' 8 R (G' 5 R (AG.c R R (fun hg=>⟨hg,hg,trivial⟩) (fun e=>W0 (G1 e b)) (a1' R (po' R (an' (n' (ci' R a (fun a=>?_) (fun a=>?_)))))))))
 ·cases a
  exact p' 2 R (E0.s hC R (e' R (re' (rq R))))
 cases a
 exact sk' (p' 3 R (E0.s hC R (e' R (re' (rq R)))))
def M5 (l:List I0)(atV1:Int)(out:List Int):Option (List Int×Int×Bool):=
 K4 l atV1>>=fun x1=>
 if (!x1.2.2)=true then
  some (out,x1.2.1,false)
 else
  if (decide ((out.length+1) * 9≤140737488355328))=true then
   B1 l x1.2.1 [44]>>=fun x2=>
   if (!x2)=true then
    some ((out++[x1.1]),x1.2.1,true)
   else
    M5 l (IntKind.i64.wrap (x1.2.1+1)) (out++[x1.1])
  else none
 partial_fixpoint
abbrev Hr (l:List I0)(atV1:Int)(out:List Int)(res:List Int×Int×Bool):Prop:=LM C 35 0 Tryz.f187 [1,1,4] [(0,.d (.sl (I0.rows l))),(1,.d (.int .i64 atV1)),(7,.osl 0 (ei64.rows out))] [.tok 3 1] (Ret [] (.tup [.d (.sl (ei64.rows res.1)),.d (.int .i64 res.2.1),.d (.bool res.2.2)]))
theorem C12 (l:List I0):(∀ b out c,M5 l b out=some c→Hr l b out c):=by
 refine M5.partial_correctness l _ ?_
 ·intro j h b out c a
  obtain ⟨x1,g,a⟩:=bs' a
  refine Y0.unroll (bk' (p' 2 R (cq (U7 g) R (e' R (S' (t' R (ci' R a (fun a=>?_) (fun a=>?_))))))))
  ·refine t' R (re' ?_)
   have e:=oi' a
   subst e
   exact ⟨_,.tup [.d (.sl (ei64.rows out)),.d (.int .i64 x1.2.1),.d (.bool false)],[],R,(.tupL ⟨.osl,.rfl,.rfl,trivial⟩),trivial,R,R,R,R⟩
  obtain ⟨i,a⟩:=Z0 a
  obtain ⟨x2,f,a⟩:=bs' a
  refine sk' (p' 2 R (E0.be hC R (ei64.rows_map [x1.1]).symm (E0.ap hC R (rs:=ei64.rows (out++[x1.1])) (ei64.app out [x1.1]) (ei64.sz out) (ei64.sz [x1.1]) (N1 (ei64.len out) (ei64.len [x1.1]) i) (e' R (S' (p' 2 R (cq (W0 f) R (e' R (ci' R a (fun a=>?_) (fun a=>?_))))))))))
  ·refine t' R (re' ?_)
   have e:=oi' a
   subst e
   exact ⟨_,.tup [.d (.sl (ei64.rows (out++[x1.1]))),.d (.int .i64 x1.2.1),.d (.bool true)],[],R,(.tupL ⟨.osl,.rfl,.rfl,trivial⟩),trivial,R,R,R,R⟩
  exact sk' (T' R (lq (h _ _ _ a) R))
theorem T13 {l atV1 out res}(a:M5 l atV1 out=some res):Hr l atV1 out res:=(C12 l) _ _ _ a
def Ej (l:List I0)(atV:Int):Option (List Int×Int×Bool):=
 M5 l atV []
theorem E1a {l atV res}(a:Ej l atV=some res):L0 C 187 [.d (.sl (I0.rows l)),.d (.int .i64 atV)] [] (Ret [] (.tup [.d (.sl (ei64.rows res.1)),.d (.int .i64 res.2.1),.d (.bool res.2.2)])):=by
 unfold Ej at a
 exact L0.intro hC Tryz.func187 R R R (t' R (s' R R (E0.be hC R (ei64.rows_map []).symm (E0.tokE 11 3 1 R (e' R (bk' (fq (T13 a) R)))))))
def U4 (l:List I0)(atV1:Int)(out:List A0):Option (List A0×Int×Bool):=
 W1 l (IntKind.i64.wrap (atV1+1))>>=fun x3=>
 if (!x3.2.2)=true then
  some (out,x3.2.1,false)
 else
  if (decide ((out.length+1) * 57≤140737488355328))=true then
   B1 l x3.2.1 [41]>>=fun x4=>
   if x4=true then
    some ((out++[x3.1]),(IntKind.i64.wrap (x3.2.1+1)),true)
   else
    B1 l x3.2.1 [44]>>=fun x5=>
    if (!x5)=true then
     some ((out++[x3.1]),x3.2.1,false)
    else
     U4 l x3.2.1 (out++[x3.1])
  else none
 partial_fixpoint
abbrev Hq (l:List I0)(atV1:Int)(out:List A0)(res:List A0×Int×Bool):Prop:=LM C 54 0 Tryz.f215 [1,1,1,1,4] [(0,.d (.sl (I0.rows l))),(1,.d (.int .i64 atV1)),(7,.osl 0 (A0.rows out))] [.tok 80 4] (Ret [] (.tup [.d (.sl (A0.rows res.1)),.d (.int .i64 res.2.1),.d (.bool res.2.2)]))
theorem D10 (l:List I0):(∀ b out e,U4 l b out=some e→Hq l b out e):=by
 refine U4.partial_correctness l _ ?_
 ·intro o h b out e a
  obtain ⟨c,i,a⟩:=bs' a
  refine Y0.unroll (bk' (p' 3 R (cq (P8 i) R (o' 4 R (E0.nf hC R (E0.s hC R (e' R (S' (t' R (ci' R a (fun a=>?_) (fun a=>?_)))))))))))
  ·refine t' R (re' ?_)
   have f:=oi' a
   subst f
   exact ⟨_,.tup [.d (.sl (A0.rows out)),.d (.int .i64 c.2.1),.d (.bool false)],[],R,(.tupL ⟨.osl,.rfl,.rfl,trivial⟩),trivial,R,R,R,R⟩
  obtain ⟨k,a⟩:=Z0 a
  obtain ⟨m,g,a⟩:=bs' a
  refine sk' (p' 2 R (E0.be hC R (A0.rows_map [c.1]).symm (E0.ap hC R (rs:=A0.rows (out++[c.1])) (A0.app out [c.1]) (A0.sz out) (A0.sz [c.1]) (N1 (A0.len out) (A0.len [c.1]) k) (e' R (t' R (S' (p' 2 R (cq (W0 g) R (n' (ci' R a (fun a=>?_) (fun a=>?_)))))))))))
  ·refine t' R (re' ?_)
   have f:=oi' a
   subst f
   exact ⟨_,.tup [.d (.sl (A0.rows (out++[c.1]))),.d (.int .i64 (IntKind.i64.wrap (c.2.1+1))),.d (.bool true)],[],R,(.tupL ⟨.osl,.rfl,.rfl,trivial⟩),trivial,R,R,R,R⟩
  obtain ⟨n,j,a⟩:=bs' a
  refine sk' (p' 2 R (cq (W0 j) R (e' R (ci' R a (fun a=>?_) (fun a=>?_)))))
  ·refine t' R (re' ?_)
   have f:=oi' a
   subst f
   exact ⟨_,.tup [.d (.sl (A0.rows (out++[c.1]))),.d (.int .i64 c.2.1),.d (.bool false)],[],R,(.tupL ⟨.osl,.rfl,.rfl,trivial⟩),trivial,R,R,R,R⟩
  exact sk' (lq (h _ _ _ a) R)
theorem D12 {l atV1 out res}(a:U4 l atV1 out=some res):Hq l atV1 out res:=(D10 l) _ _ _ a
def Qf (l:List I0)(atV:Int):Option (List A0×Int×Bool):=
 B1 l atV [40]>>=fun x1=>
 if (!x1)=true then
  some ([],atV,false)
 else
  B1 l (IntKind.i64.wrap (atV+1)) [41]>>=fun x2=>
  if x2=true then
   some ([],(IntKind.i64.wrap (atV+2)),true)
  else
   U4 l atV []
theorem E18 {l atV res}(a:Qf l atV=some res):L0 C 215 [.d (.sl (I0.rows l)),.d (.int .i64 atV)] [] (Ret [] (.tup [.d (.sl (A0.rows res.1)),.d (.int .i64 res.2.1),.d (.bool res.2.2)])):=by
 unfold Qf at a
 obtain ⟨x1,e,a⟩:=bs' a
 refine L0.intro hC Tryz.func215 R R R (t' R (s' R R (E0.be hC R (A0.rows_map []).symm (E0.tokE 11 80 4 R (e' R (S' (p' 2 R (cq (W0 e) R (e' R (ci' R a (fun a=>?_) (fun a=>?_)))))))))))
 ·refine t' R (re' ?_)
  have b:=oi' a
  subst b
  exact ⟨_,.tup [.d (.sl (A0.rows [])),.d (.int .i64 atV),.d (.bool false)],[],R,(.tupL ⟨.osl,.rfl,.rfl,trivial⟩),trivial,R,R,R,R⟩
 obtain ⟨x2,c,a⟩:=bs' a
 refine sk' (S' (p' 3 R (cq (W0 c) R (n' (ci' R a (fun a=>?_) (fun a=>?_))))))
 ·refine t' R (re' ?_)
  have b:=oi' a
  subst b
  exact ⟨_,.tup [.d (.sl (A0.rows [])),.d (.int .i64 (IntKind.i64.wrap (atV+2))),.d (.bool true)],[],R,(.tupL ⟨.osl,.rfl,.rfl,trivial⟩),trivial,R,R,R,R⟩
 exact sk' (bk' (fq (D12 a) R))
def V7 (l:List I0)(atV:Int):Option (C0×Int×Bool):=
 F7 l atV>>=fun x1=>
 (if (!(!x1.2.2))=true then B1 l x1.2.1 [61] else some default)>>=fun x2=>
 if (bif (!x1.2.2) then true else (!x2))=true then
  some ((C0.mk 0 (A0.mk 0 0 [] []) (A0.mk 0 0 [] []) [] [] 0 0 0 [] [] []),x1.2.1,false)
 else
  B1 l (IntKind.i64.wrap (x1.2.1+1)) [114,101,108,101,97,115,101]>>=fun x3=>
  if x3=true then
   S8 l (IntKind.i64.wrap ((IntKind.i64.wrap (x1.2.1+1))+1))>>=fun x4=>
   some ((C0.mk 2 x1.1 (A0.mk 0 0 [] []) x4.1 [] 0 0 0 [] [] []),x4.2.1,x4.2.2)
  else
   B1 l (IntKind.i64.wrap (x1.2.1+1)) [99,97,108,108]>>=fun x5=>
   if x5=true then
    S8 l (IntKind.i64.wrap ((IntKind.i64.wrap (x1.2.1+1))+1))>>=fun x6=>
    if (!x6.2.2)=true then
     some ((C0.mk 1 x1.1 (A0.mk 0 0 [] []) x6.1 [] 0 0 0 [] [] []),x6.2.1,false)
    else
     Qf l x6.2.1>>=fun x7=>
     some ((C0.mk 1 x1.1 (A0.mk 0 0 [] []) x6.1 x7.1 0 0 0 [] [] []),x7.2.1,x7.2.2)
   else
    W1 l (IntKind.i64.wrap (x1.2.1+1))>>=fun x8=>
    some ((C0.mk 0 x1.1 x8.1 [] [] 0 0 0 [] [] []),x8.2.1,x8.2.2)
theorem I16 {l atV res}(a:V7 l atV=some res):L0 C 188 [.d (.sl (I0.rows l)),.d (.int .i64 atV)] [] (Ret [] (.tup [.agg (C0.cells res.1),.d (.int .i64 res.2.1),.d (.bool res.2.2)])):=by
 unfold V7 at a
 obtain ⟨x1,j,a⟩:=bs' a
 obtain ⟨x2,h,a⟩:=bs' a
 refine L0.intro hC Tryz.func188 R R R (s' R R (E0.nf hC R (e' R (p' 1 R (E0.nf hC R (E0.s hC R (n' (p' 2 R (cq (M1f j) R (o' 4 R (E0.nf hC R (E0.s hC R (e' R ?_)))))))))))))
 refine S' (sg' 8 R (G' 5 R (AG.c R R (fun hg=>⟨hg,hg,trivial⟩) (fun m=>W0 (G1 m h)) (a1' R (po' R (an' (n' (ci' R a (fun a=>?_) (fun a=>?_)))))))))
 ·cases a
  exact p' 2 R (E0.s hC R (e' R (re' (rq R))))
 obtain ⟨q,e,a⟩:=bs' a
 refine sk' (p' 2 R (E0.s hC R (n' (t' R (S' (p' 2 R (cq (W0 e) R (n' (ci' R a (fun a=>?_) (fun a=>?_))))))))))
 ·obtain ⟨n,f,a⟩:=bs' a
  cases a
  exact p' 1 R (E0.s hC R (n' (p' 3 R (cq (V9 f) R (o' 5 R (E0.s hC R (e' R (p' 3 R (E0.s hC R (e' R (re' (rq R))))))))))))
 obtain ⟨p,k,a⟩:=bs' a
 refine sk' (S' (p' 2 R (cq (W0 k) R (n' (ci' R a (fun a=>?_) (fun a=>?_))))))
 ·obtain ⟨t,i,a⟩:=bs' a
  refine p' 1 R (E0.s hC R (n' (p' 3 R (cq (V9 i) R (o' 5 R (E0.s hC R (e' R (S' (t' R (ci' R a (fun a=>?_) (fun a=>?_)))))))))))
  ·cases a
   exact p' 2 R (E0.s hC R (e' R (re' (rq R))))
  obtain ⟨o,b,a⟩:=bs' a
  cases a
  exact sk' (p' 2 R (cq (E18 b) R (o' 5 R (E0.s hC R (e' R (p' 3 R (E0.s hC R (e' R (re' (rq R))))))))))
 obtain ⟨r,g,a⟩:=bs' a
 cases a
 exact sk' (p' 2 R (cq (P8 g) R (o' 5 R (E0.s hC R (e' R (p' 3 R (E0.s hC R (e' R (re' (rq R))))))))))
mutual
def I5 (l:List I0)(atV:Int):Option (List C0×Int×Bool):=
 E5 l atV []
 partial_fixpoint
def E5 (l:List I0)(atV1:Int)(out:List C0):Option (List C0×Int×Bool):=
 Bf l atV1>>=fun x1=>
 if x1=true then
  I4 l atV1>>=fun x2=>
  if (!x2.2.2)=true then
   some (out,x2.2.1,false)
  else
   if (decide ((out.length+1) * 257≤140737488355328))=true then
    E5 l x2.2.1 (out++[x2.1])
   else none
 else
  some (out,atV1,true)
 partial_fixpoint
def I4 (l:List I0)(atV:Int):Option (C0×Int×Bool):=
 B1 l atV [105,102]>>=fun x1=>
 if x1=true then
  Kd l (IntKind.i64.wrap (atV+1))>>=fun x2=>
  some (x2.1,x2.2.1,x2.2.2)
 else
  B1 l atV [119,104,105,108,101]>>=fun x3=>
  if x3=true then
   Ms l (IntKind.i64.wrap (atV+1))>>=fun x4=>
   some (x4.1,x4.2.1,x4.2.2)
  else
   B1 l atV [102,111,114]>>=fun x5=>
   if x5=true then
    Ho l (IntKind.i64.wrap (atV+1))>>=fun x6=>
    some (x6.1,x6.2.1,x6.2.2)
   else
    B1 l atV [111,117,116,112,117,116]>>=fun x7=>
    if x7=true then
     W1 l (IntKind.i64.wrap (atV+1))>>=fun x8=>
     J7 l 3 (A0.mk 0 0 [] []) x8.1 [] [] 0 0 0 [] [] [] x8.2.1 x8.2.2
    else
     B1 l atV [119,97,105,116]>>=fun x10=>
     if x10=true then
      K4 l (IntKind.i64.wrap (atV+1))>>=fun x11=>
      J7 l 4 (A0.mk 0 0 [] []) (A0.mk 0 0 [] []) [] [] x11.1 0 0 [] [] [] x11.2.1 x11.2.2
     else
      B1 l atV [115,101,116,116,108,101]>>=fun x12=>
      if x12=true then
       Ej l (IntKind.i64.wrap (atV+1))>>=fun x13=>
       J7 l 8 (A0.mk 0 0 [] []) (A0.mk 0 0 [] []) [] [] 0 0 0 x13.1 [] [] x13.2.1 x13.2.2
      else
       V7 l atV>>=fun x14=>
       J7 l x14.1.Verb x14.1.Place x14.1.Value x14.1.Name x14.1.Args x14.1.NV x14.1.Low x14.1.High x14.1.Numbers x14.1.Then x14.1.Else x14.2.1 x14.2.2
 partial_fixpoint
def Ho (l:List I0)(atV:Int):Option (C0×Int×Bool):=
 S8 l atV>>=fun x1=>
 (if (!(!x1.2.2))=true then B1 l x1.2.1 [61] else some default)>>=fun x2=>
 if (bif (!x1.2.2) then true else (!x2))=true then
  some ((C0.mk 7 (A0.mk 0 0 [] []) (A0.mk 0 0 [] []) [] [] 0 0 0 [] [] []),x1.2.1,false)
 else
  K4 l (IntKind.i64.wrap (x1.2.1+1))>>=fun x3=>
  (if (!(!x3.2.2))=true then B1 l x3.2.1 [116,111] else some default)>>=fun x4=>
  if (bif (!x3.2.2) then true else (!x4))=true then
   some ((C0.mk 7 (A0.mk 0 0 [] []) (A0.mk 0 0 [] []) x1.1 [] 0 x3.1 0 [] [] []),x3.2.1,false)
  else
   K4 l (IntKind.i64.wrap (x3.2.1+1))>>=fun x5=>
   if (!x5.2.2)=true then
    some ((C0.mk 7 (A0.mk 0 0 [] []) (A0.mk 0 0 [] []) x1.1 [] 0 x3.1 x5.1 [] [] []),x5.2.1,false)
   else
    Xc l x5.2.1>>=fun x6=>
    some ((C0.mk 7 (A0.mk 0 0 [] []) (A0.mk 0 0 [] []) x1.1 [] 0 x3.1 x5.1 [] x6.1 []),x6.2.1,x6.2.2)
 partial_fixpoint
def Xc (l:List I0)(atV:Int):Option (List C0×Int×Bool):=
 B1 l atV [123]>>=fun x1=>
 if (!x1)=true then
  some ([],atV,false)
 else
  I5 l (IntKind.i64.wrap (atV+1))>>=fun x2=>
  (if (!(!x2.2.2))=true then B1 l x2.2.1 [125] else some default)>>=fun x3=>
  if (bif (!x2.2.2) then true else (!x3))=true then
   some (x2.1,x2.2.1,false)
  else
   some (x2.1,(IntKind.i64.wrap (x2.2.1+1)),true)
 partial_fixpoint
def Ms (l:List I0)(atV:Int):Option (C0×Int×Bool):=
 W1 l atV>>=fun x1=>
 (if (!(!x1.2.2))=true then B1 l x1.2.1 [108,105,109,105,116] else some default)>>=fun x2=>
 if (bif (!x1.2.2) then true else (!x2))=true then
  some ((C0.mk 6 (A0.mk 0 0 [] []) (A0.mk 0 0 [] []) [] [] 0 0 0 [] [] []),x1.2.1,false)
 else
  K4 l (IntKind.i64.wrap (x1.2.1+1))>>=fun x3=>
  if (!x3.2.2)=true then
   some ((C0.mk 6 (A0.mk 0 0 [] []) x1.1 [] [] x3.1 0 0 [] [] []),x3.2.1,false)
  else
   Xc l x3.2.1>>=fun x4=>
   some ((C0.mk 6 (A0.mk 0 0 [] []) x1.1 [] [] x3.1 0 0 [] x4.1 []),x4.2.1,x4.2.2)
 partial_fixpoint
def Kd (l:List I0)(atV:Int):Option (C0×Int×Bool):=
 W1 l atV>>=fun x1=>
 if (!x1.2.2)=true then
  some ((C0.mk 5 (A0.mk 0 0 [] []) (A0.mk 0 0 [] []) [] [] 0 0 0 [] [] []),x1.2.1,false)
 else
  Xc l x1.2.1>>=fun x2=>
  if (!x2.2.2)=true then
   some ((C0.mk 5 (A0.mk 0 0 [] []) x1.1 [] [] 0 0 0 [] x2.1 []),x2.2.1,false)
  else
   B1 l x2.2.1 [101,108,115,101]>>=fun x3=>
   if x3=true then
    Xc l (IntKind.i64.wrap (x2.2.1+1))>>=fun x4=>
    some ((C0.mk 5 (A0.mk 0 0 [] []) x1.1 [] [] 0 0 0 [] x2.1 x4.1),x4.2.1,x4.2.2)
   else
    some ((C0.mk 5 (A0.mk 0 0 [] []) x1.1 [] [] 0 0 0 [] x2.1 []),x2.2.1,x2.2.2)
 partial_fixpoint
end
abbrev Au (l:List I0)(atV:Int)(res:List C0×Int×Bool):Prop:=L0 C 76 [.d (.sl (I0.rows l)),.d (.int .i64 atV)] [] (Ret [] (.tup [.d (.sl (C0.rows res.1)),.d (.int .i64 res.2.1),.d (.bool res.2.2)]))
abbrev E12 (l:List I0)(atV1:Int)(out:List C0)(res:List C0×Int×Bool):Prop:=LM C 33 0 Tryz.f76 [1,1,0,4] [(0,.d (.sl (I0.rows l))),(1,.d (.int .i64 atV1)),(7,.osl 0 (C0.rows out))] [.tok 88 17] (Ret [] (.tup [.d (.sl (C0.rows res.1)),.d (.int .i64 res.2.1),.d (.bool res.2.2)]))
abbrev F1a (l:List I0)(atV:Int)(res:C0×Int×Bool):Prop:=L0 C 120 [.d (.sl (I0.rows l)),.d (.int .i64 atV)] [] (Ret [] (.tup [.agg (C0.cells res.1),.d (.int .i64 res.2.1),.d (.bool res.2.2)]))
abbrev D1e (l:List I0)(atV:Int)(res:C0×Int×Bool):Prop:=L0 C 186 [.d (.sl (I0.rows l)),.d (.int .i64 atV)] [] (Ret [] (.tup [.agg (C0.cells res.1),.d (.int .i64 res.2.1),.d (.bool res.2.2)]))
abbrev J1i (l:List I0)(atV:Int)(res:List C0×Int×Bool):Prop:=L0 C 213 [.d (.sl (I0.rows l)),.d (.int .i64 atV)] [] (Ret [] (.tup [.d (.sl (C0.rows res.1)),.d (.int .i64 res.2.1),.d (.bool res.2.2)]))
abbrev K1i (l:List I0)(atV:Int)(res:C0×Int×Bool):Prop:=L0 C 185 [.d (.sl (I0.rows l)),.d (.int .i64 atV)] [] (Ret [] (.tup [.agg (C0.cells res.1),.d (.int .i64 res.2.1),.d (.bool res.2.2)]))
abbrev J16 (l:List I0)(atV:Int)(res:C0×Int×Bool):Prop:=L0 C 184 [.d (.sl (I0.rows l)),.d (.int .i64 atV)] [] (Ret [] (.tup [.agg (C0.cells res.1),.d (.int .i64 res.2.1),.d (.bool res.2.2)]))
theorem U13 (l:List I0):(∀ e b,I5 l e=some b→Au l e b)∧(∀ j out b,E5 l j out=some b→E12 l j out b)∧(∀ e b,I4 l e=some b→F1a l e b)∧(∀ e b,Ho l e=some b→D1e l e b)∧(∀ e b,Xc l e=some b→J1i l e b)∧(∀ e b,Ms l e=some b→K1i l e b)∧(∀ e b,Kd l e=some b→J16 l e b):=by
 refine I5.mutual_partial_correctness l _ _ _ _ _ _ _ ?_ ?_ ?_ ?_ ?_ ?_ ?_
 ·intro J p e b a
  exact L0.intro hC Tryz.func76 R R R (t' R (s' R R (E0.be hC R (C0.rows_map []).symm (E0.tokE 11 88 17 R (e' R (S' (bk' (fq (p _ _ _ a) R))))))))
 ·intro J U p A j out b a
  obtain ⟨x1,g,a⟩:=bs' a
  refine Y0.unroll (S' (p' 2 R (cq (Z1d g) R (n' (ci' R a (fun a=>?_) (fun a=>?_))))))
  ·obtain ⟨x2,f,a⟩:=bs' a
   refine sk' (bk' (p' 2 R (cq (A _ _ f) R (o' 4 R (E0.nf hC R (E0.s hC R (e' R (S' (t' R (ci' R a (fun a=>?_) (fun a=>?_)))))))))))
   ·refine t' R (re' ?_)
    have q:=oi' a
    subst q
    exact ⟨_,.tup [.d (.sl (C0.rows out)),.d (.int .i64 x2.2.1),.d (.bool false)],[],R,(.tupL ⟨.osl,.rfl,.rfl,trivial⟩),trivial,R,R,R,R⟩
   obtain ⟨O,a⟩:=Z0 a
   exact sk' (p' 2 R (E0.be hC R (C0.rows_map [x2.1]).symm (E0.ap hC R (rs:=C0.rows (out++[x2.1])) (C0.app out [x2.1]) (C0.sz out) (C0.sz [x2.1]) (N1 (C0.len out) (C0.len [x2.1]) O) (e' R (T' R (lq (p _ _ _ a) R))))))
  refine ex' (t' R (re' ?_))
  have q:=oi' a
  subst q
  exact ⟨_,.tup [.d (.sl (C0.rows out)),.d (.int .i64 j),.d (.bool true)],[],R,(.tupL ⟨.osl,.rfl,.rfl,trivial⟩),trivial,R,R,R,R⟩
 ·intro Q T W C F E e b a
  obtain ⟨x1,g,a⟩:=bs' a
  refine L0.intro hC Tryz.func120 R R R (s' R R (E0.nf hC R (e' R (p' 1 R (E0.nf hC R (E0.s hC R (n' (t' R (S' (bk' (p' 2 R (cq (W0 g) R (e' R (ci' R a (fun a=>?_) (fun a=>?_)))))))))))))))
  ·obtain ⟨x2,f,a⟩:=bs' a
   cases a
   exact p' 3 R (cq (E _ _ f) R (o' 3 R (E0.s hC R (e' R (re' (rq R))))))
  obtain ⟨x,h,a⟩:=bs' a
  refine p' 2 R (cq (W0 h) R (e' R (ci' R a (fun a=>?_) (fun a=>?_))))
  ·obtain ⟨y,i,a⟩:=bs' a
   cases a
   exact p' 3 R (cq (F _ _ i) R (o' 3 R (E0.s hC R (e' R (re' (rq R))))))
  obtain ⟨L,m,a⟩:=bs' a
  refine p' 2 R (cq (W0 m) R (e' R (ci' R a (fun a=>?_) (fun a=>?_))))
  ·obtain ⟨H,o,a⟩:=bs' a
   cases a
   exact p' 3 R (cq (C _ _ o) R (o' 3 R (E0.s hC R (e' R (re' (rq R))))))
  obtain ⟨S,z,a⟩:=bs' a
  refine p' 2 R (cq (W0 z) R (e' R (ci' R a (fun a=>?_) (fun a=>?_))))
  ·obtain ⟨X,D,a⟩:=bs' a
   exact p' 1 R (E0.s hC R (n' (P' 3 R (cq (P8 D) R (o' 5 R (E0.s hC R (e' R (eq' (Pf a) R))))))))
  obtain ⟨M,w,a⟩:=bs' a
  refine p' 2 R (cq (W0 w) R (e' R (ci' R a (fun a=>?_) (fun a=>?_))))
  ·obtain ⟨P,u,a⟩:=bs' a
   exact p' 1 R (E0.s hC R (n' (P' 3 R (cq (U7 u) R (o' 5 R (E0.s hC R (e' R (eq' (Pf a) R))))))))
  obtain ⟨I,t,a⟩:=bs' a
  refine p' 2 R (cq (W0 t) R (e' R (ci' R a (fun a=>?_) (fun a=>?_))))
  ·obtain ⟨K,v,a⟩:=bs' a
   exact p' 1 R (E0.s hC R (n' (P' 3 R (cq (E1a v) R (o' 5 R (E0.s hC R (e' R (eq' (Pf a) R))))))))
  obtain ⟨N,r,a⟩:=bs' a
  exact P' 2 R (cq (I16 r) R (o' 4 R (E0.s hC R (e' R (eq' (Pf a) R)))))
 ·intro G k e b a
  obtain ⟨x1,g,a⟩:=bs' a
  obtain ⟨x2,f,a⟩:=bs' a
  refine L0.intro hC Tryz.func186 R R R (s' R R (E0.nf hC R (e' R (p' 1 R (E0.nf hC R (E0.s hC R (n' (p' 2 R (cq (V9 g) R (e' R (S' (sg' 8 R (G' 5 R ?_)))))))))))))
  refine AG.c R R (fun hg=>⟨hg,hg,trivial⟩) (fun n=>W0 (G1 n f)) (a1' R (po' R (an' (n' (ci' R a (fun a=>?_) (fun a=>?_))))))
  ·cases a
   exact p' 2 R (E0.s hC R (e' R (re' (rq R))))
  obtain ⟨x,h,a⟩:=bs' a
  obtain ⟨y,i,a⟩:=bs' a
  refine sk' (p' 2 R (E0.s hC R (n' (p' 3 R (cq (U7 h) R (o' 5 R (E0.s hC R (e' R (S' (sg' 8 R (G' 5 R (AG.c R R (fun hg=>⟨hg,hg,trivial⟩) (fun n=>W0 (G1 n i)) (a1' R ?_)))))))))))))
  refine po' R (an' (n' (ci' R a (fun a=>?_) (fun a=>?_))))
  ·cases a
   exact p' 2 R (E0.s hC R (e' R (re' (rq R))))
  obtain ⟨L,m,a⟩:=bs' a
  refine sk' (p' 3 R (cq (U7 m) R (o' 5 R (E0.s hC R (e' R (S' (t' R (ci' R a (fun a=>?_) (fun a=>?_)))))))))
  ·cases a
   exact p' 2 R (E0.s hC R (e' R (re' (rq R))))
  obtain ⟨H,o,a⟩:=bs' a
  cases a
  exact sk' (p' 2 R (cq (k _ _ o) R (o' 5 R (E0.s hC R (e' R (p' 3 R (E0.s hC R (e' R (re' (rq R))))))))))
 ·intro V B e b a
  obtain ⟨x1,g,a⟩:=bs' a
  refine L0.intro hC Tryz.func213 R R R (t' R (S' (p' 2 R (cq (W0 g) R (e' R (ci' R a (fun a=>?_) (fun a=>?_)))))))
  ·refine t' R (re' ?_)
   have q:=oi' a
   subst q
   exact ⟨_,.tup [.d (.sl (C0.rows [])),.d (.int .i64 e),.d (.bool false)],[],R,(.tupL ⟨.full,.rfl,.rfl,trivial⟩),trivial,R,R,R,R⟩
  obtain ⟨x2,f,a⟩:=bs' a
  obtain ⟨x,h,a⟩:=bs' a
  refine sk' (p' 3 R (cq (B _ _ f) R (e' R (S' (sg' 8 R (G' 5 R (AG.c R R (fun hg=>⟨hg,hg,trivial⟩) (fun n=>W0 (G1 n h)) (a1' R (po' R (an' (n' (ci' R a (fun a=>?_) (fun a=>?_)))))))))))))
  ·cases a
   exact t' R (re' (rq R))
  cases a
  exact sk' (t' R (re' (rq R)))
 ·intro G k e b a
  obtain ⟨x1,g,a⟩:=bs' a
  obtain ⟨x2,f,a⟩:=bs' a
  refine L0.intro hC Tryz.func185 R R R (s' R R (E0.nf hC R (e' R (p' 1 R (E0.nf hC R (E0.s hC R (n' (p' 2 R (cq (P8 g) R (o' 4 R (E0.nf hC R (E0.s hC R (e' R ?_)))))))))))))
  refine S' (sg' 8 R (G' 5 R (AG.c R R (fun hg=>⟨hg,hg,trivial⟩) (fun n=>W0 (G1 n f)) (a1' R (po' R (an' (n' (ci' R a (fun a=>?_) (fun a=>?_)))))))))
  ·cases a
   exact p' 2 R (E0.s hC R (e' R (re' (rq R))))
  obtain ⟨x,h,a⟩:=bs' a
  refine sk' (p' 2 R (E0.s hC R (n' (p' 3 R (cq (U7 h) R (o' 5 R (E0.s hC R (e' R (S' (t' R (ci' R a (fun a=>?_) (fun a=>?_))))))))))))
  ·cases a
   exact p' 2 R (E0.s hC R (e' R (re' (rq R))))
  obtain ⟨y,i,a⟩:=bs' a
  cases a
  exact sk' (p' 2 R (cq (k _ _ i) R (o' 5 R (E0.s hC R (e' R (p' 3 R (E0.s hC R (e' R (re' (rq R))))))))))
 ·intro G k e b a
  obtain ⟨x1,g,a⟩:=bs' a
  refine L0.intro hC Tryz.func184 R R R (s' R R (E0.nf hC R (e' R (p' 1 R (E0.nf hC R (E0.s hC R (n' (p' 2 R (cq (P8 g) R (o' 4 R (E0.nf hC R (E0.s hC R (e' R ?_)))))))))))))
  refine S' (t' R (ci' R a (fun a=>?_) (fun a=>?_)))
  ·cases a
   exact p' 2 R (E0.s hC R (e' R (re' (rq R))))
  obtain ⟨x2,f,a⟩:=bs' a
  refine sk' (p' 2 R (E0.s hC R (n' (p' 2 R (cq (k _ _ f) R (o' 5 R (E0.s hC R (e' R (S' (t' R (ci' R a (fun a=>?_) (fun a=>?_))))))))))))
  ·cases a
   exact p' 2 R (E0.s hC R (e' R (re' (rq R))))
  obtain ⟨x,h,a⟩:=bs' a
  refine sk' (S' (p' 2 R (cq (W0 h) R (n' (ci' R a (fun a=>?_) (fun a=>?_))))))
  ·obtain ⟨y,i,a⟩:=bs' a
   cases a
   exact P' 3 R (cq (k _ _ i) R (o' 5 R (E0.s hC R (e' R (p' 3 R (E0.s hC R (e' R (re' (rq R)))))))))
  cases a
  exact sk' (p' 3 R (E0.s hC R (e' R (re' (rq R)))))
theorem Ir {l atV res}(a:I5 l atV=some res):Au l atV res:=(U13 l).1 _ _ a
def N5 (l:List I0)(x1:Str×Int×Bool)(x5:F0×Int×Bool)(o1_Params:List B0)(o1_Vars:List B0)(atV3:Int):Option (B0×Int×Bool):=
 B1 l atV3 [118,97,114]>>=fun x9=>
 if x9=true then
  Ca l (IntKind.i64.wrap (atV3+1))>>=fun x10=>
  if (!x10.2.2)=true then
   some ((B0.mk 6 x1.1 x5.1 0 (A0.mk 0 0 [] []) o1_Params o1_Vars []),x10.2.1,false)
  else
   if (decide ((o1_Vars.length+1) * 257≤140737488355328))=true then
    N5 l x1 x5 o1_Params (o1_Vars++[x10.1]) x10.2.1
   else none
 else
  I5 l atV3>>=fun x11=>
  (if (!(!x11.2.2))=true then B1 l x11.2.1 [114,101,116,117,114,110] else some default)>>=fun x12=>
  if (bif (!x11.2.2) then true else (!x12))=true then
   some ((B0.mk 6 x1.1 x5.1 0 (A0.mk 0 0 [] []) o1_Params o1_Vars x11.1),x11.2.1,false)
  else
   W1 l (IntKind.i64.wrap (x11.2.1+1))>>=fun x13=>
   if (!x13.2.2)=true then
    some ((B0.mk 6 x1.1 x5.1 0 x13.1 o1_Params o1_Vars x11.1),x13.2.1,false)
   else
    Fl l x13.2.1 [[59],[125]]>>=fun x14=>
    some ((B0.mk 6 x1.1 x5.1 0 x13.1 o1_Params o1_Vars x11.1),x14.1,x14.2)
 partial_fixpoint
abbrev Jr (l:List I0)(x1:Str×Int×Bool)(x5:F0×Int×Bool)(o1_Params:List B0)(o1_Vars:List B0)(atV3:Int)(res:B0×Int×Bool):Prop:=LM C 159 0 Tryz.f114 [1,1,1,1,1,1,1,1,1,1,1,0,4] [(0,.d (.sl (I0.rows l))),(1,.d (.int .i64 atV3)),(4,.ref 0 0),(9,.ref 1 0)] [.row [.d (.int .i64 0),.d (.str []),.d (.int .i64 0),.d (.int .i64 0),.d (.int .i64 0),.d (.int .i64 0),.d (.str []),.full (estr.rows []),.full (F0.rows []),.d (.int .i64 0),.d (.int .i64 0),.d (.int .i64 0),.d (.str []),.full (A0.rows []),.full (B0.rows []),.full (B0.rows []),.full (C0.rows [])] 82,.row [.d (.int .i64 6),.d (.str x1.1),.d (.int .i64 x5.1.Kind),.d (.int .i64 x5.1.Low),.d (.int .i64 x5.1.High),.d (.int .i64 x5.1.Size),.d (.str x5.1.Name),.d (.sl (estr.rows x5.1.Names)),.d (.sl (F0.rows x5.1.Of)),.d (.int .i64 0),.d (.int .i64 0),.d (.int .i64 0),.d (.str []),.full (A0.rows []),.osl 2 (B0.rows o1_Params),.osl 3 (B0.rows o1_Vars),.full (C0.rows [])] 82,.tok 82 17,.tok 82 17] (Ret [] (.tup [.agg (B0.cells res.1),.d (.int .i64 res.2.1),.d (.bool res.2.2)]))
theorem F12 (l:List I0)(x1:Str×Int×Bool)(e:F0×Int×Bool)(b:List B0):(∀ a i m,N5 l x1 e b a i=some m→Jr l x1 e b a i m):=by
 refine N5.partial_correctness l x1 e b _ ?_
 ·intro A v a i m f
  obtain ⟨z,w,f⟩:=bs' f
  refine Y0.unroll (S' (p' 2 R (cq (W0 w) R (n' (ci' R f (fun f=>?_) (fun f=>?_))))))
  ·obtain ⟨h,r,f⟩:=bs' f
   refine sk' (bk' (p' 3 R (cq (Dv r) R (o' 4 R (E0.nf hC R (E0.s hC R (e' R (S' (t' R (ci' R f (fun f=>?_) (fun f=>?_)))))))))))
   ·refine p' 2 R (E0.s hC R (e' R (re' ?_)))
    have k:=oi' f
    subst k
    exact ⟨_,.tup [.agg [.d (.int .i64 6),.d (.str x1.1),.d (.int .i64 e.1.Kind),.d (.int .i64 e.1.Low),.d (.int .i64 e.1.High),.d (.int .i64 e.1.Size),.d (.str e.1.Name),.d (.sl (estr.rows e.1.Names)),.d (.sl (F0.rows e.1.Of)),.d (.int .i64 0),.d (.int .i64 0),.d (.int .i64 0),.d (.str []),.d (.sl (A0.rows [])),.d (.sl (B0.rows b)),.d (.sl (B0.rows a)),.d (.sl (C0.rows []))],.d (.int .i64 h.2.1),.d (.bool false)],[],R,(.tupL ⟨(.aggL ⟨.rfl,.rfl,.rfl,.rfl,.rfl,.rfl,.rfl,.rfl,.rfl,.rfl,.rfl,.rfl,.rfl,.full,.osl,.osl,.full,trivial⟩),.rfl,.rfl,trivial⟩),trivial,R,R,R,R⟩
   obtain ⟨u,f⟩:=Z0 f
   exact sk' (p' 3 R (E0.be hC R (B0.rows_map [h.1]).symm (E0.ap hC R (rs:=B0.rows (a++[h.1])) (B0.app a [h.1]) (B0.sz a) (B0.sz [h.1]) (N1 (B0.len a) (B0.len [h.1]) u) (q' R (E0.s hC R (n' (T' R (lq (v _ _ _ f) R))))))))
  obtain ⟨j,p,f⟩:=bs' f
  obtain ⟨x,o,f⟩:=bs' f
  refine ex' (p' 2 R (cq (Ir p) R (o' 5 R (E0.s hC R (e' R (S' (sg' 8 R (G' 5 R (AG.c R R (fun hg=>⟨hg,hg,trivial⟩) (fun y=>W0 (G1 y o)) (a1' R (po' R (an' (n' (ci' R f (fun f=>?_) (fun f=>?_)))))))))))))))
  ·refine p' 2 R (E0.s hC R (e' R (re' ?_)))
   have k:=oi' f
   subst k
   exact ⟨_,.tup [.agg [.d (.int .i64 6),.d (.str x1.1),.d (.int .i64 e.1.Kind),.d (.int .i64 e.1.Low),.d (.int .i64 e.1.High),.d (.int .i64 e.1.Size),.d (.str e.1.Name),.d (.sl (estr.rows e.1.Names)),.d (.sl (F0.rows e.1.Of)),.d (.int .i64 0),.d (.int .i64 0),.d (.int .i64 0),.d (.str []),.d (.sl (A0.rows [])),.d (.sl (B0.rows b)),.d (.sl (B0.rows a)),.d (.sl (C0.rows j.1))],.d (.int .i64 j.2.1),.d (.bool false)],[],R,(.tupL ⟨(.aggL ⟨.rfl,.rfl,.rfl,.rfl,.rfl,.rfl,.rfl,.rfl,.rfl,.rfl,.rfl,.rfl,.rfl,.full,.osl,.osl,.rfl,trivial⟩),.rfl,.rfl,trivial⟩),trivial,R,R,R,R⟩
  obtain ⟨g,q,f⟩:=bs' f
  refine sk' (p' 3 R (cq (P8 q) R (o' 5 R (E0.s hC R (e' R (S' (t' R (ci' R f (fun f=>?_) (fun f=>?_)))))))))
  ·refine p' 2 R (E0.s hC R (e' R (re' ?_)))
   have k:=oi' f
   subst k
   exact ⟨_,.tup [.agg [.d (.int .i64 6),.d (.str x1.1),.d (.int .i64 e.1.Kind),.d (.int .i64 e.1.Low),.d (.int .i64 e.1.High),.d (.int .i64 e.1.Size),.d (.str e.1.Name),.d (.sl (estr.rows e.1.Names)),.d (.sl (F0.rows e.1.Of)),.d (.int .i64 0),.d (.int .i64 g.1.Op),.d (.int .i64 g.1.NV),.d (.str g.1.Name),.d (.sl (A0.rows g.1.Kids)),.d (.sl (B0.rows b)),.d (.sl (B0.rows a)),.d (.sl (C0.rows j.1))],.d (.int .i64 g.2.1),.d (.bool false)],[],R,(.tupL ⟨(.aggL ⟨.rfl,.rfl,.rfl,.rfl,.rfl,.rfl,.rfl,.rfl,.rfl,.rfl,.rfl,.rfl,.rfl,.rfl,.osl,.osl,.rfl,trivial⟩),.rfl,.rfl,trivial⟩),trivial,R,R,R,R⟩
  obtain ⟨t,n,f⟩:=bs' f
  refine sk' (p' 2 R (E0.be hC R (estr.rows_map [[59],[125]]).symm (E0.cl R (B12 n) ⟨.rfl,.rfl,.full,trivial⟩ R (e' R (p' 3 R (E0.s hC R (e' R (re' ?_))))))))
  have k:=oi' f
  subst k
  exact ⟨_,.tup [.agg [.d (.int .i64 6),.d (.str x1.1),.d (.int .i64 e.1.Kind),.d (.int .i64 e.1.Low),.d (.int .i64 e.1.High),.d (.int .i64 e.1.Size),.d (.str e.1.Name),.d (.sl (estr.rows e.1.Names)),.d (.sl (F0.rows e.1.Of)),.d (.int .i64 0),.d (.int .i64 g.1.Op),.d (.int .i64 g.1.NV),.d (.str g.1.Name),.d (.sl (A0.rows g.1.Kids)),.d (.sl (B0.rows b)),.d (.sl (B0.rows a)),.d (.sl (C0.rows j.1))],.d (.int .i64 t.1),.d (.bool t.2)],[],R,(.tupL ⟨(.aggL ⟨.rfl,.rfl,.rfl,.rfl,.rfl,.rfl,.rfl,.rfl,.rfl,.rfl,.rfl,.rfl,.rfl,.rfl,.osl,.osl,.rfl,trivial⟩),.rfl,.rfl,trivial⟩),trivial,R,R,R,R⟩
theorem V13 {l x1 x5 o1_Params o1_Vars atV3 res}(a:N5 l x1 x5 o1_Params o1_Vars atV3=some res):Jr l x1 x5 o1_Params o1_Vars atV3 res:=(F12 l x1 x5 o1_Params) _ _ _ a
def O5 (l:List I0)(x1:Str×Int×Bool)(o1_Params:List B0)(atV1:Int):Option (B0×Int×Bool):=
 Fl l atV1 [[41],[58]]>>=fun x4=>
 if (!x4.2)=true then
  some ((B0.mk 6 x1.1 (F0.mk 0 0 0 0 [] [] []) 0 (A0.mk 0 0 [] []) o1_Params [] []),x4.1,false)
 else
  O9 l x4.1>>=fun x5=>
  (if (!(!x5.2.2))=true then B1 l x5.2.1 [123] else some default)>>=fun x6=>
  if (bif (!x5.2.2) then true else (!x6))=true then
   some ((B0.mk 6 x1.1 x5.1 0 (A0.mk 0 0 [] []) o1_Params [] []),x5.2.1,false)
  else
   N5 l x1 x5 o1_Params [] (IntKind.i64.wrap (x5.2.1+1))
theorem Iq {l x1 o1_Params atV1 res}(a:O5 l x1 o1_Params atV1=some res):JM C 159 0 Tryz.f114 [1,1,1,1,1,1] [(0,.d (.sl (I0.rows l))),(1,.d (.int .i64 atV1)),(4,.ref 0 0),(9,.ref 1 0)] [.row [.d (.int .i64 0),.d (.str []),.d (.int .i64 0),.d (.int .i64 0),.d (.int .i64 0),.d (.int .i64 0),.d (.str []),.full (estr.rows []),.full (F0.rows []),.d (.int .i64 0),.d (.int .i64 0),.d (.int .i64 0),.d (.str []),.full (A0.rows []),.full (B0.rows []),.full (B0.rows []),.full (C0.rows [])] 82,.row [.d (.int .i64 6),.d (.str x1.1),.d (.int .i64 0),.d (.int .i64 0),.d (.int .i64 0),.d (.int .i64 0),.d (.str []),.full (estr.rows []),.full (F0.rows []),.d (.int .i64 0),.d (.int .i64 0),.d (.int .i64 0),.d (.str []),.full (A0.rows []),.osl 2 (B0.rows o1_Params),.osl 3 (B0.rows []),.full (C0.rows [])] 82,.tok 82 17,.tok 82 17] (Ret [] (.tup [.agg (B0.cells res.1),.d (.int .i64 res.2.1),.d (.bool res.2.2)])):=by
 unfold O5 at a
 obtain ⟨i,g,a⟩:=bs' a
 refine p' 2 R (E0.be hC R (estr.rows_map [[41],[58]]).symm (E0.cl R (B12 g) ⟨.rfl,.rfl,.full,trivial⟩ R (e' R (S' (t' R (ci' R a (fun a=>?_) (fun a=>?_)))))))
 ·refine p' 2 R (E0.s hC R (e' R (re' ?_)))
  have e:=oi' a
  subst e
  exact ⟨_,.tup [.agg [.d (.int .i64 6),.d (.str x1.1),.d (.int .i64 0),.d (.int .i64 0),.d (.int .i64 0),.d (.int .i64 0),.d (.str []),.d (.sl (estr.rows [])),.d (.sl (F0.rows [])),.d (.int .i64 0),.d (.int .i64 0),.d (.int .i64 0),.d (.str []),.d (.sl (A0.rows [])),.d (.sl (B0.rows o1_Params)),.d (.sl (B0.rows [])),.d (.sl (C0.rows []))],.d (.int .i64 i.1),.d (.bool false)],[],R,(.tupL ⟨(.aggL ⟨.rfl,.rfl,.rfl,.rfl,.rfl,.rfl,.rfl,.full,.full,.rfl,.rfl,.rfl,.rfl,.full,.osl,.osl,.full,trivial⟩),.rfl,.rfl,trivial⟩),trivial,R,R,R,R⟩
 obtain ⟨b,h,a⟩:=bs' a
 obtain ⟨k,f,a⟩:=bs' a
 refine sk' (p' 2 R (cq (B18 h) R (o' 5 R (E0.s hC R (e' R (S' (sg' 8 R (G' 5 R (AG.c R R (fun hg=>⟨hg,hg,trivial⟩) (fun j=>W0 (G1 j f)) (a1' R (po' R (an' (n' (ci' R a (fun a=>?_) (fun a=>?_)))))))))))))))
 ·refine p' 2 R (E0.s hC R (e' R (re' ?_)))
  have e:=oi' a
  subst e
  exact ⟨_,.tup [.agg [.d (.int .i64 6),.d (.str x1.1),.d (.int .i64 b.1.Kind),.d (.int .i64 b.1.Low),.d (.int .i64 b.1.High),.d (.int .i64 b.1.Size),.d (.str b.1.Name),.d (.sl (estr.rows b.1.Names)),.d (.sl (F0.rows b.1.Of)),.d (.int .i64 0),.d (.int .i64 0),.d (.int .i64 0),.d (.str []),.d (.sl (A0.rows [])),.d (.sl (B0.rows o1_Params)),.d (.sl (B0.rows [])),.d (.sl (C0.rows []))],.d (.int .i64 b.2.1),.d (.bool false)],[],R,(.tupL ⟨(.aggL ⟨.rfl,.rfl,.rfl,.rfl,.rfl,.rfl,.rfl,.rfl,.rfl,.rfl,.rfl,.rfl,.rfl,.full,.osl,.osl,.full,trivial⟩),.rfl,.rfl,trivial⟩),trivial,R,R,R,R⟩
 exact sk' (t' R (S' (bk' (fq (V13 a) R))))
def Y3 (l:List I0)(x1:Str×Int×Bool)(o1_Params1:List B0)(atV2:Int):Option (B0×Int×Bool):=
 O4 l atV2>>=fun x7=>
 if (!x7.2.2)=true then
  some ((B0.mk 6 x1.1 (F0.mk 0 0 0 0 [] [] []) 0 (A0.mk 0 0 [] []) o1_Params1 [] []),x7.2.1,false)
 else
  if (decide ((o1_Params1.length+1) * 257≤140737488355328))=true then
   B1 l x7.2.1 [44]>>=fun x8=>
   if (!x8)=true then
    O5 l x1 (o1_Params1++[x7.1]) x7.2.1
   else
    Y3 l x1 (o1_Params1++[x7.1]) (IntKind.i64.wrap (x7.2.1+1))
  else none
 partial_fixpoint
abbrev Kr (l:List I0)(x1:Str×Int×Bool)(o1_Params1:List B0)(atV2:Int)(res:B0×Int×Bool):Prop:=LM C 159 0 Tryz.f114 [1,1,1,1,1,0,1,2,4] [(0,.d (.sl (I0.rows l))),(1,.d (.int .i64 atV2)),(4,.ref 0 0),(9,.ref 1 0)] [.row [.d (.int .i64 0),.d (.str []),.d (.int .i64 0),.d (.int .i64 0),.d (.int .i64 0),.d (.int .i64 0),.d (.str []),.full (estr.rows []),.full (F0.rows []),.d (.int .i64 0),.d (.int .i64 0),.d (.int .i64 0),.d (.str []),.full (A0.rows []),.full (B0.rows []),.full (B0.rows []),.full (C0.rows [])] 82,.row [.d (.int .i64 6),.d (.str x1.1),.d (.int .i64 0),.d (.int .i64 0),.d (.int .i64 0),.d (.int .i64 0),.d (.str []),.full (estr.rows []),.full (F0.rows []),.d (.int .i64 0),.d (.int .i64 0),.d (.int .i64 0),.d (.str []),.full (A0.rows []),.osl 2 (B0.rows o1_Params1),.osl 3 (B0.rows []),.full (C0.rows [])] 82,.tok 82 17,.tok 82 17] (Ret [] (.tup [.agg (B0.cells res.1),.d (.int .i64 res.2.1),.d (.bool res.2.2)]))
theorem G12 (l:List I0)(x1:Str×Int×Bool):(∀ a c e,Y3 l x1 a c=some e→Kr l x1 a c e):=by
 refine Y3.partial_correctness l x1 _ ?_
 ·intro m h a c e b
  obtain ⟨f,i,b⟩:=bs' b
  refine Y0.unroll (bk' (p' 2 R (cq (Fs i) R (o' 4 R (E0.nf hC R (E0.s hC R (e' R (S' (t' R (ci' R b (fun b=>?_) (fun b=>?_)))))))))))
  ·refine p' 2 R (E0.s hC R (e' R (re' ?_)))
   have k:=oi' b
   subst k
   exact ⟨_,.tup [.agg [.d (.int .i64 6),.d (.str x1.1),.d (.int .i64 0),.d (.int .i64 0),.d (.int .i64 0),.d (.int .i64 0),.d (.str []),.d (.sl (estr.rows [])),.d (.sl (F0.rows [])),.d (.int .i64 0),.d (.int .i64 0),.d (.int .i64 0),.d (.str []),.d (.sl (A0.rows [])),.d (.sl (B0.rows a)),.d (.sl (B0.rows [])),.d (.sl (C0.rows []))],.d (.int .i64 f.2.1),.d (.bool false)],[],R,(.tupL ⟨(.aggL ⟨.rfl,.rfl,.rfl,.rfl,.rfl,.rfl,.rfl,.full,.full,.rfl,.rfl,.rfl,.rfl,.full,.osl,.osl,.full,trivial⟩),.rfl,.rfl,trivial⟩),trivial,R,R,R,R⟩
  obtain ⟨g,b⟩:=Z0 b
  obtain ⟨n,j,b⟩:=bs' b
  refine sk' (p' 3 R (E0.be hC R (B0.rows_map [f.1]).symm (E0.ap hC R (rs:=B0.rows (a++[f.1])) (B0.app a [f.1]) (B0.sz a) (B0.sz [f.1]) (N1 (B0.len a) (B0.len [f.1]) g) (q' R (E0.s hC R (n' (t' R (S' (p' 2 R (cq (W0 j) R (e' R (ci' R b (fun b=>?_) (fun b=>?_)))))))))))))
  ·exact ex' (eq' (Iq b) R)
  exact sk' (T' R (lq (h _ _ _ b) R))
theorem W13 {l x1 o1_Params1 atV2 res}(a:Y3 l x1 o1_Params1 atV2=some res):Kr l x1 o1_Params1 atV2 res:=(G12 l x1) _ _ _ a
def Ic (l:List I0)(atV:Int):Option (B0×Int×Bool):=
 S8 l atV>>=fun x1=>
 (if (!(!x1.2.2))=true then B1 l x1.2.1 [40] else some default)>>=fun x2=>
 if (bif (!x1.2.2) then true else (!x2))=true then
  some ((B0.mk 6 x1.1 (F0.mk 0 0 0 0 [] [] []) 0 (A0.mk 0 0 [] []) [] [] []),x1.2.1,false)
 else
  B1 l (IntKind.i64.wrap (x1.2.1+1)) [41]>>=fun x3=>
  if (!x3)=true then
   Y3 l x1 [] (IntKind.i64.wrap (x1.2.1+1))
  else
   O5 l x1 [] (IntKind.i64.wrap (x1.2.1+1))
theorem G1a {l atV res}(a:Ic l atV=some res):L0 C 114 [.d (.sl (I0.rows l)),.d (.int .i64 atV)] [] (Ret [] (.tup [.agg (B0.cells res.1),.d (.int .i64 res.2.1),.d (.bool res.2.2)])):=by
 unfold Ic at a
 obtain ⟨x1,e,a⟩:=bs' a
 obtain ⟨x2,b,a⟩:=bs' a
 refine L0.intro hC Tryz.func114 R R R (s' R R (E0.nf hC R (e' R (p' 2 R (cq (V9 e) R (e' R (p' 1 R (E0.bz hC R (E0.nf hC R (E0.s hC R (E0.tokC 1 14 82 17 R R R R R (E0.tokC 1 15 82 17 R R R R R (n' ?_)))))))))))))
 refine S' (sg' 8 R (G' 5 R (AG.c R R (fun hg=>⟨hg,hg,trivial⟩) (fun h=>W0 (G1 h b)) (a1' R (po' R (an' (n' (ci' R a (fun a=>?_) (fun a=>?_)))))))))
 ·refine p' 2 R (E0.s hC R (e' R (re' ?_)))
  have g:=oi' a
  subst g
  exact ⟨_,.tup [.agg [.d (.int .i64 6),.d (.str x1.1),.d (.int .i64 0),.d (.int .i64 0),.d (.int .i64 0),.d (.int .i64 0),.d (.str []),.d (.sl (estr.rows [])),.d (.sl (F0.rows [])),.d (.int .i64 0),.d (.int .i64 0),.d (.int .i64 0),.d (.str []),.d (.sl (A0.rows [])),.d (.sl (B0.rows [])),.d (.sl (B0.rows [])),.d (.sl (C0.rows []))],.d (.int .i64 x1.2.1),.d (.bool false)],[],R,(.tupL ⟨(.aggL ⟨.rfl,.rfl,.rfl,.rfl,.rfl,.rfl,.rfl,.full,.full,.rfl,.rfl,.rfl,.rfl,.full,.osl,.osl,.full,trivial⟩),.rfl,.rfl,trivial⟩),trivial,R,R,R,R⟩
 obtain ⟨i,f,a⟩:=bs' a
 refine sk' (t' R (S' (p' 2 R (cq (W0 f) R (e' R (ci' R a (fun a=>?_) (fun a=>?_)))))))
 ·exact bk' (fq (W13 a) R)
 exact sk' (eq' (Iq a) R)
def T2 (l:List I0)(o1_Kind:Int)(x11:B0×Int×Bool)(o1_Value:A0)(atV1:Int):Option (B0×Int×Bool):=
 B1 l atV1 [59]>>=fun x12=>
 if (!x12)=true then
  some ((B0.mk o1_Kind x11.1.Name x11.1.TypeV x11.1.Init o1_Value x11.1.Params x11.1.Vars x11.1.Body),atV1,false)
 else
  some ((B0.mk o1_Kind x11.1.Name x11.1.TypeV x11.1.Init o1_Value x11.1.Params x11.1.Vars x11.1.Body),(IntKind.i64.wrap (atV1+1)),true)
theorem Ud {l o1_Kind x11 o1_Value atV1 res}(a:T2 l o1_Kind x11 o1_Value atV1=some res):JM C 134 0 Tryz.f74 [1,1,1,1,1,1,1,1] [(0,.d (.sl (I0.rows l))),(1,.d (.int .i64 atV1)),(4,.ref 0 0),(12,.ref 1 0)] [.row [.d (.int .i64 0),.d (.str []),.d (.int .i64 0),.d (.int .i64 0),.d (.int .i64 0),.d (.int .i64 0),.d (.str []),.full (estr.rows []),.full (F0.rows []),.d (.int .i64 0),.d (.int .i64 0),.d (.int .i64 0),.d (.str []),.full (A0.rows []),.full (B0.rows []),.full (B0.rows []),.full (C0.rows [])] 82,.row [.d (.int .i64 o1_Kind),.d (.str x11.1.Name),.d (.int .i64 x11.1.TypeV.Kind),.d (.int .i64 x11.1.TypeV.Low),.d (.int .i64 x11.1.TypeV.High),.d (.int .i64 x11.1.TypeV.Size),.d (.str x11.1.TypeV.Name),.d (.sl (estr.rows x11.1.TypeV.Names)),.d (.sl (F0.rows x11.1.TypeV.Of)),.d (.int .i64 x11.1.Init),.d (.int .i64 o1_Value.Op),.d (.int .i64 o1_Value.NV),.d (.str o1_Value.Name),.d (.sl (A0.rows o1_Value.Kids)),.d (.sl (B0.rows x11.1.Params)),.d (.sl (B0.rows x11.1.Vars)),.d (.sl (C0.rows x11.1.Body))] 82] (Ret [] (.tup [.agg (B0.cells res.1),.d (.int .i64 res.2.1),.d (.bool res.2.2)])):=by
 unfold T2 at a
 obtain ⟨c,b,a⟩:=bs' a
 refine S' (p' 2 R (cq (W0 b) R (e' R (ci' R a (fun a=>?_) (fun a=>?_)))))
 ·cases a
  exact p' 2 R (E0.s hC R (e' R (re' (rq R))))
 cases a
 exact sk' (p' 3 R (E0.s hC R (e' R (re' (rq R)))))
def L4 (l:List I0)(atV:Int):Option (B0×Int×Bool):=
 B1 l atV [118,97,114]>>=fun x1=>
 if x1=true then
  Ca l (IntKind.i64.wrap (atV+1))>>=fun x2=>
  some (x2.1,x2.2.1,x2.2.2)
 else
  B1 l atV [102,117,110,99]>>=fun x3=>
  if x3=true then
   Ic l (IntKind.i64.wrap (atV+1))>>=fun x4=>
   some (x4.1,x4.2.1,x4.2.2)
  else
   B1 l atV [116,121,112,101]>>=fun x5=>
   if x5=true then
    S8 l (IntKind.i64.wrap (atV+1))>>=fun x6=>
    (if (!(!x6.2.2))=true then B1 l x6.2.1 [61] else some default)>>=fun x7=>
    if (bif (!x6.2.2) then true else (!x7))=true then
     some ((B0.mk 0 [] (F0.mk 0 0 0 0 [] [] []) 0 (A0.mk 0 0 [] []) [] [] []),x6.2.1,false)
    else
     O9 l (IntKind.i64.wrap (x6.2.1+1))>>=fun x8=>
     (if (!(!x8.2.2))=true then B1 l x8.2.1 [59] else some default)>>=fun x9=>
     if (bif (!x8.2.2) then true else (!x9))=true then
      some ((B0.mk 0 [] (F0.mk 0 0 0 0 [] [] []) 0 (A0.mk 0 0 [] []) [] [] []),x8.2.1,false)
     else
      some ((B0.mk 0 x6.1 x8.1 0 (A0.mk 0 0 [] []) [] [] []),(IntKind.i64.wrap (x8.2.1+1)),true)
   else
    idx l atV>>=fun x10=>
    O4 l (IntKind.i64.wrap (atV+1))>>=fun x11=>
    if (!x11.2.2)=true then
     some (x11.1,x11.2.1,false)
    else
     if (x10.Text == [115,101,99,114,101,116])=true then
      T2 l 1 x11 x11.1.Value x11.2.1
     else
      if (x10.Text == [112,117,98,108,105,99])=true then
       T2 l 2 x11 x11.1.Value x11.2.1
      else
       if (x10.Text == [114,97,110,100,111,109])=true then
        T2 l 3 x11 x11.1.Value x11.2.1
       else
        B1 l x11.2.1 [61]>>=fun x13=>
        if (!x13)=true then
         some ((B0.mk 5 x11.1.Name x11.1.TypeV x11.1.Init x11.1.Value x11.1.Params x11.1.Vars x11.1.Body),x11.2.1,false)
        else
         W1 l (IntKind.i64.wrap (x11.2.1+1))>>=fun x14=>
         if (!x14.2.2)=true then
          some ((B0.mk 5 x11.1.Name x11.1.TypeV x11.1.Init x14.1 x11.1.Params x11.1.Vars x11.1.Body),x14.2.1,false)
         else
          T2 l 5 x11 x14.1 x14.2.1
theorem X13 {l atV res}(a:L4 l atV=some res):L0 C 74 [.d (.sl (I0.rows l)),.d (.int .i64 atV)] [] (Ret [] (.tup [.agg (B0.cells res.1),.d (.int .i64 res.2.1),.d (.bool res.2.2)])):=by
 unfold L4 at a
 obtain ⟨x1,q,a⟩:=bs' a
 refine L0.intro hC Tryz.func74 R R R (s' R R (E0.nf hC R (e' R (S' (p' 2 R (cq (W0 q) R (n' (ci' R a (fun a=>?_) (fun a=>?_)))))))))
 ·obtain ⟨x2,o,a⟩:=bs' a
  cases a
  exact p' 3 R (cq (Dv o) R (o' 3 R (E0.s hC R (e' R (re' (rq R))))))
 obtain ⟨B,i,a⟩:=bs' a
 refine sk' (S' (p' 2 R (cq (W0 i) R (n' (ci' R a (fun a=>?_) (fun a=>?_))))))
 ·obtain ⟨x,k,a⟩:=bs' a
  cases a
  exact p' 3 R (cq (G1a k) R (o' 3 R (E0.s hC R (e' R (re' (rq R))))))
 obtain ⟨A,r,a⟩:=bs' a
 refine sk' (S' (p' 2 R (cq (W0 r) R (n' (ci' R a (fun a=>?_) (fun a=>?_))))))
 ·obtain ⟨E,p,a⟩:=bs' a
  obtain ⟨y,h,a⟩:=bs' a
  refine p' 3 R (cq (V9 p) R (e' R (S' (sg' 8 R (G' 5 R (AG.c R R (fun hg=>⟨hg,hg,trivial⟩) (fun m=>W0 (G1 m h)) (a1' R (po' R (an' (n' (ci' R a (fun a=>?_) (fun a=>?_))))))))))))
  ·cases a
   exact p' 2 R (E0.s hC R (e' R (re' (rq R))))
  obtain ⟨D,n,a⟩:=bs' a
  obtain ⟨z,j,a⟩:=bs' a
  refine sk' (p' 3 R (cq (B18 n) R (o' 4 R (E0.nf hC R (E0.s hC R (e' R (S' (sg' 8 R (G' 5 R (AG.c R R (fun hg=>⟨hg,hg,trivial⟩) (fun m=>W0 (G1 m j)) (a1' R (po' R (an' ?_)))))))))))))
  refine n' (ci' R a (fun a=>?_) (fun a=>?_))
  ·cases a
   exact p' 2 R (E0.s hC R (e' R (re' (rq R))))
  cases a
  exact sk' (p' 5 R (E0.s hC R (e' R (re' (rq R)))))
 obtain ⟨u,b,a⟩:=bs' a
 obtain ⟨w,f,a⟩:=bs' a
 refine sk' (p' 2 R (i' R (D1 b) (I0.idx b) R (e' R (p' 3 R (cq (Fs f) R (o' 4 R (E0.nf hC R (E0.s hC R (e' R (S' (t' R (ci' R a (fun a=>?_) (fun a=>?_)))))))))))))
 ·cases a
  exact p' 2 R (E0.s hC R (e' R (re' (rq R))))
 refine sk' (S' (t' R (bk' (t' R (ci' R a (fun a=>?_) (fun a=>?_))))))
 ·exact P' 1 R (E0.s hC R (n' (eq' (Ud a) R)))
 refine t' R (ci' R a (fun a=>?_) (fun a=>?_))
 ·exact P' 1 R (E0.s hC R (n' (eq' (Ud a) R)))
 refine t' R (ci' R a (fun a=>?_) (fun a=>?_))
 ·exact P' 1 R (E0.s hC R (n' (eq' (Ud a) R)))
 obtain ⟨t,g,a⟩:=bs' a
 refine p' 1 R (E0.s hC R (n' (S' (p' 2 R (cq (W0 g) R (e' R (ci' R a (fun a=>?_) (fun a=>?_))))))))
 ·cases a
  exact p' 2 R (E0.s hC R (e' R (re' (rq R))))
 obtain ⟨v,e,a⟩:=bs' a
 refine sk' (p' 3 R (cq (P8 e) R (o' 5 R (E0.s hC R (e' R (t' R (ci' R a (fun a=>?_) (fun a=>?_))))))))
 ·cases a
  exact p' 2 R (E0.s hC R (e' R (re' (rq R))))
 exact sk' (eq' (Ud a) R)
def V6 (l:List I0)(o1_Decls:List B0)(atV1:Int):Option (S0×Int×Bool):=
 Cj l atV1>>=fun x1=>
 if x1=true then
  L4 l atV1>>=fun x2=>
  if (!x2.2.2)=true then
   some ((S0.mk o1_Decls []),x2.2.1,false)
  else
   if (decide ((o1_Decls.length+1) * 257≤140737488355328))=true then
    V6 l (o1_Decls++[x2.1]) x2.2.1
   else none
 else
  B1 l atV1 [98,101,103,105,110]>>=fun x3=>
  if (!x3)=true then
   some ((S0.mk o1_Decls []),atV1,false)
  else
   I5 l (IntKind.i64.wrap (atV1+1))>>=fun x4=>
   (if (!(!x4.2.2))=true then B1 l x4.2.1 [101,110,100] else some default)>>=fun x5=>
   if (bif (!x4.2.2) then true else (!x5))=true then
    some ((S0.mk o1_Decls []),x4.2.1,false)
   else
    some ((S0.mk o1_Decls x4.1),(IntKind.i64.wrap (x4.2.1+1)),true)
 partial_fixpoint
abbrev Bu (l:List I0)(o1_Decls:List B0)(atV1:Int)(res:S0×Int×Bool):Prop:=LM C 64 0 Tryz.f40 [1,1,0,4] [(0,.d (.sl (I0.rows l))),(1,.d (.int .i64 atV1)),(4,.ref 0 0),(7,.ref 1 0)] [.row [.full (B0.rows []),.full (C0.rows [])] 26,.row [.osl 2 (B0.rows o1_Decls),.full (C0.rows [])] 26,.tok 82 17] (Ret [] (.tup [.agg (S0.cells res.1),.d (.int .i64 res.2.1),.d (.bool res.2.2)]))
theorem Y13 (l:List I0):(∀ a e g,V6 l a e=some g→Bu l a e g):=by
 refine V6.partial_correctness l _ ?_
 ·intro u i a e g b
  obtain ⟨x1,n,b⟩:=bs' b
  refine Y0.unroll (S' (p' 2 R (cq (A1a n) R (n' (ci' R b (fun b=>?_) (fun b=>?_))))))
  ·obtain ⟨x2,m,b⟩:=bs' b
   refine sk' (bk' (p' 2 R (cq (X13 m) R (o' 4 R (E0.nf hC R (E0.s hC R (e' R (S' (t' R (ci' R b (fun b=>?_) (fun b=>?_)))))))))))
   ·refine p' 2 R (E0.s hC R (e' R (re' ?_)))
    have f:=oi' b
    subst f
    exact ⟨_,.tup [.agg [.d (.sl (B0.rows a)),.d (.sl (C0.rows []))],.d (.int .i64 x2.2.1),.d (.bool false)],[],R,(.tupL ⟨(.aggL ⟨.osl,.full,trivial⟩),.rfl,.rfl,trivial⟩),trivial,R,R,R,R⟩
   obtain ⟨q,b⟩:=Z0 b
   exact sk' (p' 3 R (E0.be hC R (B0.rows_map [x2.1]).symm (E0.ap hC R (rs:=B0.rows (a++[x2.1])) (B0.app a [x2.1]) (B0.sz a) (B0.sz [x2.1]) (N1 (B0.len a) (B0.len [x2.1]) q) (q' R (E0.s hC R (n' (T' R (lq (i _ _ _ b) R))))))))
  obtain ⟨t,j,b⟩:=bs' b
  refine ex' (S' (p' 2 R (cq (W0 j) R (e' R (ci' R b (fun b=>?_) (fun b=>?_))))))
  ·refine p' 2 R (E0.s hC R (e' R (re' ?_)))
   have f:=oi' b
   subst f
   exact ⟨_,.tup [.agg [.d (.sl (B0.rows a)),.d (.sl (C0.rows []))],.d (.int .i64 e),.d (.bool false)],[],R,(.tupL ⟨(.aggL ⟨.osl,.full,trivial⟩),.rfl,.rfl,trivial⟩),trivial,R,R,R,R⟩
  obtain ⟨h,k,b⟩:=bs' b
  obtain ⟨r,o,b⟩:=bs' b
  refine sk' (p' 3 R (cq (Ir k) R (e' R (S' (sg' 8 R (G' 5 R (AG.c R R (fun hg=>⟨hg,hg,trivial⟩) (fun p=>W0 (G1 p o)) (a1' R (po' R (an' (n' (ci' R b (fun b=>?_) (fun b=>?_)))))))))))))
  ·refine p' 2 R (E0.s hC R (e' R (re' ?_)))
   have f:=oi' b
   subst f
   exact ⟨_,.tup [.agg [.d (.sl (B0.rows a)),.d (.sl (C0.rows []))],.d (.int .i64 h.2.1),.d (.bool false)],[],R,(.tupL ⟨(.aggL ⟨.osl,.full,trivial⟩),.rfl,.rfl,trivial⟩),trivial,R,R,R,R⟩
  refine sk' (p' 2 R (E0.s hC R (n' (p' 3 R (E0.s hC R (e' R (re' ?_)))))))
  have f:=oi' b
  subst f
  exact ⟨_,.tup [.agg [.d (.sl (B0.rows a)),.d (.sl (C0.rows h.1))],.d (.int .i64 (IntKind.i64.wrap (h.2.1+1))),.d (.bool true)],[],R,(.tupL ⟨(.aggL ⟨.osl,.rfl,trivial⟩),.rfl,.rfl,trivial⟩),trivial,R,R,R,R⟩
theorem K16 {l o1_Decls atV1 res}(a:V6 l o1_Decls atV1=some res):Bu l o1_Decls atV1 res:=(Y13 l) _ _ _ a
end Go.Proofs.YtbaijagfgceilaaGreatDoor

