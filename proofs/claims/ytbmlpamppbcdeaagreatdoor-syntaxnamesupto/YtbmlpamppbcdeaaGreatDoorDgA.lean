/- A part of the proof of SyntaxNames. -/
import Derived.Test.YtbmlpamppbcdeaaGreatDoorXxA
import Derived.Test.YtbmlpamppbcdeaaGreatDoorAmF
set_option maxRecDepth 100000
set_option maxHeartbeats 4000000
set_option synthInstance.maxSize 20000
set_option linter.unusedVariables false
namespace Go.Proofs.YtbmlpamppbcdeaaGreatDoor
open Go.Am
instance:Nonempty (Q3 C):=⟨hC⟩
def ebool.row (x:Bool):Row:=[.bool x]
def ebool.ents (m:List (Str×Bool)):List (Str×Row):=Di ebool.row m
theorem ebool.mput (k:Str)(x:Bool)(m:List (Str×Bool)):mput k (ebool.row x) (ebool.ents m)=ebool.ents (mpt k x m):=(Z1c ebool.row k x m).symm
def estr.row (x:Str):Row:=[.str x]
def estr.rows (l:List Str):List Row:=l.map estr.row
theorem estr.rows_map (l:List Str):estr.rows l=l.map estr.row:=rfl
theorem estr.idx {l:List Str}{n:Int}{x:Str}(h:idx l n=some x):(estr.rows l)[n.toNat]?=some (estr.row x):=Cq estr.rows_map h
theorem estr.app (l m:List Str):estr.rows (l++m)=estr.rows l++estr.rows m:=Iu estr.rows_map l m
theorem estr.len (l:List Str):(estr.rows l).length=l.length:=Dq estr.rows_map l
theorem estr.lenA (l:List Str):A.d (.int .i64 ((estr.rows l).length:Nat))=A.d (.int .i64 (l.length:Nat)):=Tn estr.rows_map l
theorem estr.sz (l:List Str):∀ r∈estr.rows l,r.length=1:=Xt estr.rows_map (fun _=>rfl) l
def ei64.row (x:Int):Row:=[.int .i64 x]
def ei64.rows (l:List Int):List Row:=l.map ei64.row
theorem ei64.rows_map (l:List Int):ei64.rows l=l.map ei64.row:=rfl
theorem ei64.idx {l:List Int}{n:Int}{x:Int}(h:idx l n=some x):(ei64.rows l)[n.toNat]?=some (ei64.row x):=Cq ei64.rows_map h
theorem ei64.len (l:List Int):(ei64.rows l).length=l.length:=Dq ei64.rows_map l
theorem ei64.lenA (l:List Int):A.d (.int .i64 ((ei64.rows l).length:Nat))=A.d (.int .i64 (l.length:Nat)):=Tn ei64.rows_map l
theorem ei64.sz (l:List Int):∀ r∈ei64.rows l,r.length=1:=Xt ei64.rows_map (fun _=>rfl) l
structure D0 where
 Kind:Int
 Low:Int
 High:Int
 Size:Int
 Name:Str
 Names:List Str
 Of:List D0
def D0.zero:D0:=⟨0,0,0,0,[],[],[]⟩
instance:Inhabited D0:=⟨D0.zero⟩
mutual
def D0.rowX:D0→Row
 | .mk y0 y1 y2 y3 y4 y5 y6=>[.int .i64 y0,.int .i64 y1,.int .i64 y2,.int .i64 y3,.str y4,.sl (estr.rows y5),.sl (D0.rowsX y6)]
def D0.rowsX:List D0→List Row
 | []=>[]
 | x::r=>D0.rowX x::D0.rowsX r
end
def D0.rows (l:List D0):List Row:=D0.rowsX l
def D0.row (x:D0):Row:=[.int .i64 x.Kind,.int .i64 x.Low,.int .i64 x.High,.int .i64 x.Size,.str x.Name,.sl (estr.rows x.Names),.sl (D0.rows x.Of)]
theorem D0.rows_map:∀ l,D0.rows l=l.map D0.row
 | []=>rfl
 | x::r=>by
  show D0.rowX x::D0.rows r=D0.row x::r.map D0.row
  rw [D0.rows_map r]
  cases x
  rfl
def D0.cells (x:D0):List A:=[.d (.int .i64 x.Kind),.d (.int .i64 x.Low),.d (.int .i64 x.High),.d (.int .i64 x.Size),.d (.str x.Name),.d (.sl (estr.rows x.Names)),.d (.sl (D0.rows x.Of))]
theorem D0.idx {l:List D0}{n:Int}{x:D0}(h:idx l n=some x):(D0.rows l)[n.toNat]?=some (D0.row x):=Cq D0.rows_map h
theorem D0.app (l m:List D0):D0.rows (l++m)=D0.rows l++D0.rows m:=Iu D0.rows_map l m
theorem D0.len (l:List D0):(D0.rows l).length=l.length:=Dq D0.rows_map l
theorem D0.lenA (l:List D0):A.d (.int .i64 ((D0.rows l).length:Nat))=A.d (.int .i64 (l.length:Nat)):=Tn D0.rows_map l
theorem D0.sz (l:List D0):∀ r∈D0.rows l,r.length=7:=Xt D0.rows_map (fun _=>rfl) l
structure A0 where
 Op:Int
 NV:Int
 Name:Str
 Kids:List A0
def A0.zero:A0:=⟨0,0,[],[]⟩
instance:Inhabited A0:=⟨A0.zero⟩
mutual
def A0.rowX:A0→Row
 | .mk y0 y1 y2 y3=>[.int .i64 y0,.int .i64 y1,.str y2,.sl (A0.rowsX y3)]
def A0.rowsX:List A0→List Row
 | []=>[]
 | x::r=>A0.rowX x::A0.rowsX r
end
def A0.rows (l:List A0):List Row:=A0.rowsX l
def A0.row (x:A0):Row:=[.int .i64 x.Op,.int .i64 x.NV,.str x.Name,.sl (A0.rows x.Kids)]
theorem A0.rows_map:∀ l,A0.rows l=l.map A0.row
 | []=>rfl
 | x::r=>by
  show A0.rowX x::A0.rows r=A0.row x::r.map A0.row
  rw [A0.rows_map r]
  cases x
  rfl
def A0.cells (x:A0):List A:=[.d (.int .i64 x.Op),.d (.int .i64 x.NV),.d (.str x.Name),.d (.sl (A0.rows x.Kids))]
theorem A0.idx {l:List A0}{n:Int}{x:A0}(h:idx l n=some x):(A0.rows l)[n.toNat]?=some (A0.row x):=Cq A0.rows_map h
theorem A0.app (l m:List A0):A0.rows (l++m)=A0.rows l++A0.rows m:=Iu A0.rows_map l m
theorem A0.len (l:List A0):(A0.rows l).length=l.length:=Dq A0.rows_map l
theorem A0.lenA (l:List A0):A.d (.int .i64 ((A0.rows l).length:Nat))=A.d (.int .i64 (l.length:Nat)):=Tn A0.rows_map l
theorem A0.sz (l:List A0):∀ r∈A0.rows l,r.length=4:=Xt A0.rows_map (fun _=>rfl) l
structure C0 where
 Verb:Int
 Place:A0
 Value:A0
 Name:Str
 Args:List A0
 NV:Int
 Low:Int
 High:Int
 Numbers:List Int
 Then:List C0
 Else:List C0
def C0.zero:C0:=⟨0,⟨0,0,[],[]⟩,⟨0,0,[],[]⟩,[],[],0,0,0,[],[],[]⟩
instance:Inhabited C0:=⟨C0.zero⟩
mutual
def C0.rowX:C0→Row
 | .mk y0 y1 y2 y3 y4 y5 y6 y7 y8 y9 y10=>[.int .i64 y0,.int .i64 y1.Op,.int .i64 y1.NV,.str y1.Name,.sl (A0.rows y1.Kids),.int .i64 y2.Op,.int .i64 y2.NV,.str y2.Name,.sl (A0.rows y2.Kids),.str y3,.sl (A0.rows y4),.int .i64 y5,.int .i64 y6,.int .i64 y7,.sl (ei64.rows y8),.sl (C0.rowsX y9),.sl (C0.rowsX y10)]
def C0.rowsX:List C0→List Row
 | []=>[]
 | x::r=>C0.rowX x::C0.rowsX r
end
def C0.rows (l:List C0):List Row:=C0.rowsX l
def C0.row (x:C0):Row:=[.int .i64 x.Verb,.int .i64 x.Place.Op,.int .i64 x.Place.NV,.str x.Place.Name,.sl (A0.rows x.Place.Kids),.int .i64 x.Value.Op,.int .i64 x.Value.NV,.str x.Value.Name,.sl (A0.rows x.Value.Kids),.str x.Name,.sl (A0.rows x.Args),.int .i64 x.NV,.int .i64 x.Low,.int .i64 x.High,.sl (ei64.rows x.Numbers),.sl (C0.rows x.Then),.sl (C0.rows x.Else)]
theorem C0.rows_map:∀ l,C0.rows l=l.map C0.row
 | []=>rfl
 | x::r=>by
  show C0.rowX x::C0.rows r=C0.row x::r.map C0.row
  rw [C0.rows_map r]
  cases x
  rfl
def C0.cells (x:C0):List A:=[.d (.int .i64 x.Verb),.d (.int .i64 x.Place.Op),.d (.int .i64 x.Place.NV),.d (.str x.Place.Name),.d (.sl (A0.rows x.Place.Kids)),.d (.int .i64 x.Value.Op),.d (.int .i64 x.Value.NV),.d (.str x.Value.Name),.d (.sl (A0.rows x.Value.Kids)),.d (.str x.Name),.d (.sl (A0.rows x.Args)),.d (.int .i64 x.NV),.d (.int .i64 x.Low),.d (.int .i64 x.High),.d (.sl (ei64.rows x.Numbers)),.d (.sl (C0.rows x.Then)),.d (.sl (C0.rows x.Else))]
theorem C0.idx {l:List C0}{n:Int}{x:C0}(h:idx l n=some x):(C0.rows l)[n.toNat]?=some (C0.row x):=Cq C0.rows_map h
theorem C0.app (l m:List C0):C0.rows (l++m)=C0.rows l++C0.rows m:=Iu C0.rows_map l m
theorem C0.len (l:List C0):(C0.rows l).length=l.length:=Dq C0.rows_map l
theorem C0.lenA (l:List C0):A.d (.int .i64 ((C0.rows l).length:Nat))=A.d (.int .i64 (l.length:Nat)):=Tn C0.rows_map l
theorem C0.sz (l:List C0):∀ r∈C0.rows l,r.length=17:=Xt C0.rows_map (fun _=>rfl) l
structure F0 where
 Kind:Int
 Name:Str
 TypeV:D0
 Init:Int
 Value:A0
 Params:List F0
 Vars:List F0
 Body:List C0
def F0.zero:F0:=⟨0,[],⟨0,0,0,0,[],[],[]⟩,0,⟨0,0,[],[]⟩,[],[],[]⟩
instance:Inhabited F0:=⟨F0.zero⟩
mutual
def F0.rowX:F0→Row
 | .mk y0 y1 y2 y3 y4 y5 y6 y7=>[.int .i64 y0,.str y1,.int .i64 y2.Kind,.int .i64 y2.Low,.int .i64 y2.High,.int .i64 y2.Size,.str y2.Name,.sl (estr.rows y2.Names),.sl (D0.rows y2.Of),.int .i64 y3,.int .i64 y4.Op,.int .i64 y4.NV,.str y4.Name,.sl (A0.rows y4.Kids),.sl (F0.rowsX y5),.sl (F0.rowsX y6),.sl (C0.rows y7)]
def F0.rowsX:List F0→List Row
 | []=>[]
 | x::r=>F0.rowX x::F0.rowsX r
end
def F0.rows (l:List F0):List Row:=F0.rowsX l
def F0.row (x:F0):Row:=[.int .i64 x.Kind,.str x.Name,.int .i64 x.TypeV.Kind,.int .i64 x.TypeV.Low,.int .i64 x.TypeV.High,.int .i64 x.TypeV.Size,.str x.TypeV.Name,.sl (estr.rows x.TypeV.Names),.sl (D0.rows x.TypeV.Of),.int .i64 x.Init,.int .i64 x.Value.Op,.int .i64 x.Value.NV,.str x.Value.Name,.sl (A0.rows x.Value.Kids),.sl (F0.rows x.Params),.sl (F0.rows x.Vars),.sl (C0.rows x.Body)]
theorem F0.rows_map:∀ l,F0.rows l=l.map F0.row
 | []=>rfl
 | x::r=>by
  show F0.rowX x::F0.rows r=F0.row x::r.map F0.row
  rw [F0.rows_map r]
  cases x
  rfl
def F0.cells (x:F0):List A:=[.d (.int .i64 x.Kind),.d (.str x.Name),.d (.int .i64 x.TypeV.Kind),.d (.int .i64 x.TypeV.Low),.d (.int .i64 x.TypeV.High),.d (.int .i64 x.TypeV.Size),.d (.str x.TypeV.Name),.d (.sl (estr.rows x.TypeV.Names)),.d (.sl (D0.rows x.TypeV.Of)),.d (.int .i64 x.Init),.d (.int .i64 x.Value.Op),.d (.int .i64 x.Value.NV),.d (.str x.Value.Name),.d (.sl (A0.rows x.Value.Kids)),.d (.sl (F0.rows x.Params)),.d (.sl (F0.rows x.Vars)),.d (.sl (C0.rows x.Body))]
theorem F0.idx {l:List F0}{n:Int}{x:F0}(h:idx l n=some x):(F0.rows l)[n.toNat]?=some (F0.row x):=Cq F0.rows_map h
theorem F0.app (l m:List F0):F0.rows (l++m)=F0.rows l++F0.rows m:=Iu F0.rows_map l m
theorem F0.len (l:List F0):(F0.rows l).length=l.length:=Dq F0.rows_map l
theorem F0.lenA (l:List F0):A.d (.int .i64 ((F0.rows l).length:Nat))=A.d (.int .i64 (l.length:Nat)):=Tn F0.rows_map l
theorem F0.sz (l:List F0):∀ r∈F0.rows l,r.length=17:=Xt F0.rows_map (fun _=>rfl) l
structure Q0 where
 Decls:List F0
 Body:List C0
def Q0.zero:Q0:=⟨[],[]⟩
instance:Inhabited Q0:=⟨Q0.zero⟩
def Q0.row (x:Q0):Row:=[.sl (F0.rows x.Decls),.sl (C0.rows x.Body)]
def Q0.rows (l:List Q0):List Row:=l.map Q0.row
theorem Q0.rows_map (l:List Q0):Q0.rows l=l.map Q0.row:=rfl
def Q0.cells (x:Q0):List A:=[.d (.sl (F0.rows x.Decls)),.d (.sl (C0.rows x.Body))]
structure J0 where
 nodes:Int
 depth:Int
 badForm:Bool
 badName:Bool
 badNumber:Bool
def J0.zero:J0:=⟨0,0,false,false,false⟩
instance:Inhabited J0:=⟨J0.zero⟩
def J0.cells (x:J0):List A:=[.d (.int .i64 x.nodes),.d (.int .i64 x.depth),.d (.bool x.badForm),.d (.bool x.badName),.d (.bool x.badNumber)]
structure G1 where
 place:Bool
 value:Bool
 name:Bool
 args:Bool
 n:Bool
 bounds:Bool
 numbers:Bool
 thenV:Bool
 other:Bool
def G1.zero:G1:=⟨false,false,false,false,false,false,false,false,false⟩
instance:Inhabited G1:=⟨G1.zero⟩
def G1.cells (x:G1):List A:=[.d (.bool x.place),.d (.bool x.value),.d (.bool x.name),.d (.bool x.args),.d (.bool x.n),.d (.bool x.bounds),.d (.bool x.numbers),.d (.bool x.thenV),.d (.bool x.other)]
structure P0 where
 nodes:Int
 depth:Int
def P0.zero:P0:=⟨0,0⟩
instance:Inhabited P0:=⟨P0.zero⟩
def P0.cells (x:P0):List A:=[.d (.int .i64 x.nodes),.d (.int .i64 x.depth)]
end Go.Proofs.YtbmlpamppbcdeaaGreatDoor

set_option maxRecDepth 100000
set_option maxHeartbeats 4000000
set_option synthInstance.maxSize 20000
set_option linter.unusedVariables false
namespace Go.Proofs.YtbmlpamppbcdeaaGreatDoor
open Go.Am
def Ea (l:List Str):Option (List Str):=if decide ((0+l.length) * 17≤140737488355328)=true then some l else none
theorem Hp {l res:List Str}(hh:Ea l=some res):O0 C 193 [.d (.sl (estr.rows l))] [] (fun x H'=>H'=[]∧x = .d (.sl (estr.rows res))):=by
 obtain ⟨hroom,hh⟩:=X0 hh
 cases hh
 refine O0.intro hC Tryz.func193 rfl rfl rfl ?_
 refine AEx.seq ?_
 refine AEx.regionN rfl rfl ?_
 refine L0.q hC rfl trivial ?_
 refine L0.nil ?_
 refine AEx.seq ?_
 refine AEx.seq ?_
 refine AEx.regionN rfl rfl ?_
 refine L0.q hC rfl trivial ?_
 refine L0.z hC rfl fun b hnil=>?_
 refine L0.nil ?_
 refine AEx.cond rfl (fun hb=>?_) (fun hb=>?_)
 ·obtain rfl:l=[]:=List.eq_nil_of_length_eq_zero (by have:=estr.len l; rw [hnil hb] at this; exact this.symm)
  refine AEx.seq ?_
  refine AEx.regionN rfl rfl ?_
  refine L0.q hC rfl trivial ?_
  skip
  refine L0.nil ?_
  refine AEx.ret ?_
  exact ⟨_,.d (.sl (estr.rows [])),[],rfl,.full,trivial,rfl,rfl,rfl,rfl⟩
 ·refine AEx.skip ?_
  refine AEx.seq ?_
  refine AEx.regionN rfl rfl ?_
  refine L0.b hC rfl ?_
  refine L0.q hC rfl trivial ?_
  refine L0.ap hC rfl (rs:=estr.rows l) rfl (fun r hr=>absurd hr (List.not_mem_nil)) (estr.sz l) (X4 rfl (estr.len l) hroom) ?_
  refine L0.q hC rfl trivial ?_
  refine L0.nil ?_
  refine AEx.ret ?_
  exact ⟨_,.d (.sl (estr.rows l)),[],rfl,.osl,trivial,rfl,rfl,rfl,rfl⟩
def Wg (l:List Int):Option (List Int):=if decide ((0+l.length) * 9≤140737488355328)=true then some l else none
theorem Yv {l res:List Int}(hh:Wg l=some res):O0 C 110 [.d (.sl (ei64.rows l))] [] (fun x H'=>H'=[]∧x = .d (.sl (ei64.rows res))):=by
 obtain ⟨hroom,hh⟩:=X0 hh
 cases hh
 refine O0.intro hC Tryz.func110 rfl rfl rfl ?_
 refine AEx.seq ?_
 refine AEx.regionN rfl rfl ?_
 refine L0.q hC rfl trivial ?_
 refine L0.nil ?_
 refine AEx.seq ?_
 refine AEx.seq ?_
 refine AEx.regionN rfl rfl ?_
 refine L0.q hC rfl trivial ?_
 refine L0.z hC rfl fun b hnil=>?_
 refine L0.nil ?_
 refine AEx.cond rfl (fun hb=>?_) (fun hb=>?_)
 ·obtain rfl:l=[]:=List.eq_nil_of_length_eq_zero (by have:=ei64.len l; rw [hnil hb] at this; exact this.symm)
  refine AEx.seq ?_
  refine AEx.regionN rfl rfl ?_
  refine L0.q hC rfl trivial ?_
  skip
  refine L0.nil ?_
  refine AEx.ret ?_
  exact ⟨_,.d (.sl (ei64.rows [])),[],rfl,.full,trivial,rfl,rfl,rfl,rfl⟩
 ·refine AEx.skip ?_
  refine AEx.seq ?_
  refine AEx.regionN rfl rfl ?_
  refine L0.b hC rfl ?_
  refine L0.q hC rfl trivial ?_
  refine L0.ap hC rfl (rs:=ei64.rows l) rfl (fun r hr=>absurd hr (List.not_mem_nil)) (ei64.sz l) (X4 rfl (ei64.len l) hroom) ?_
  refine L0.q hC rfl trivial ?_
  refine L0.nil ?_
  refine AEx.ret ?_
  exact ⟨_,.d (.sl (ei64.rows l)),[],rfl,.osl,trivial,rfl,rfl,rfl,rfl⟩
def Hl (n:Int):Option A0:=
 some (A0.mk 0 n [] [])
theorem Mu {n res}(hh:Hl n=some res):O0 C 36 [.d (.int .i64 n)] [] (Ret [] (.agg (A0.cells res))):=by
 unfold Hl at hh
 cases hh
 exact O0.intro hC Tryz.func36 rfl rfl rfl (s' rfl rfl (L0.nf hC rfl (n' (p' 2 rfl (L0.s hC rfl (n' (re' (rt' rfl rfl rfl))))))))
def Sb (o:Int)(kids:List A0):Option A0:=
 some (A0.mk o 0 [] kids)
theorem Fg {o kids res}(hh:Sb o kids=some res):O0 C 35 [.d (.int .i64 o),.d (.sl (A0.rows kids))] [] (Ret [] (.agg (A0.cells res))):=by
 unfold Sb at hh
 cases hh
 exact O0.intro hC Tryz.func35 rfl rfl rfl (s' rfl rfl (L0.nf hC rfl (n' (p' 3 rfl (L0.s hC rfl (n' (re' (rt' rfl rfl rfl))))))))
def Fa (s:Str):Option A0:=
 some (A0.mk 3 0 s [])
theorem Fd {s res}(hh:Fa s=some res):O0 C 37 [.d (.str s)] [] (Ret [] (.agg (A0.cells res))):=by
 unfold Fa at hh
 cases hh
 exact O0.intro hC Tryz.func37 rfl rfl rfl (s' rfl rfl (L0.nf hC rfl (n' (p' 2 rfl (L0.s hC rfl (n' (re' (rt' rfl rfl rfl))))))))
def B5 (d:Int)(syntaxReport:J0):Option J0:=
 some (J0.mk syntaxReport.nodes (max syntaxReport.depth d) syntaxReport.badForm syntaxReport.badName syntaxReport.badNumber)
theorem Ij {d syntaxReport res}(hh:B5 d syntaxReport=some res):O0 C 170 [.ref 0 0,.d (.int .i64 d)] [.row (J0.cells syntaxReport) 142] (Ret [.row (J0.cells res) 142] (.tup [])):=by
 unfold B5 at hh
 cases hh
 exact O0.intro hC Tryz.func170 rfl rfl rfl (P' 9 rfl (L0.s hC rfl (n' (rn' rfl rfl rfl))))
def D9 (op:Int)(v9:Bool):Option Int:=
 if v9=true then
  some 1
 else
  if (op == 5)=true then
   some 2
  else
   if (op == 23)=true then
    some 3
   else
    if (bif (decide (op≥8)) then (decide (op≤22)) else false)=true then
     some 2
    else
     some (-1)
theorem Il {op v9 res}(hh:D9 op v9=some res):JM C 23 0 Tryz.f172 [1,0,1,4,1,3,1] [(0,.d (.int .i64 op)),(3,.d (.int .i64 op)),(9,.d (.bool v9))] [] (Ret [] (.d (.int .i64 res))):=by
 unfold D9 at hh
 refine ci' rfl hh (fun hh=>?_) (fun hh=>?_)
 ·cases hh
  exact t' rfl (re' (rt' rfl rfl rfl))
 refine t' rfl (ci' rfl hh (fun hh=>?_) (fun hh=>?_))
 ·cases hh
  exact t' rfl (re' (rt' rfl rfl rfl))
 refine t' rfl (ci' rfl hh (fun hh=>?_) (fun hh=>?_))
 ·cases hh
  exact t' rfl (re' (rt' rfl rfl rfl))
 refine sk' (S' (sg' 6 rfl (G' 4 rfl (a1' rfl (pa' rfl (an' (n' (ci' rfl hh (fun hh=>?_) (fun hh=>?_)))))))))
 ·cases hh
  exact t' rfl (re' (rt' rfl rfl rfl))
 cases hh
 exact sk' (t' rfl (re' (rt' rfl rfl rfl)))
def R7 (op:Int)(v4:Bool):Option Int:=
 if v4=true then
  some 0
 else
  if (op == 4)=true then
   D9 op (op == 4)
  else
   if (op == 6)=true then
    D9 op (op == 6)
   else
    D9 op (op == 7)
theorem Ei {op v4 res}(hh:R7 op v4=some res):JM C 23 0 Tryz.f172 [1,0,1,4,1] [(0,.d (.int .i64 op)),(3,.d (.int .i64 op)),(4,.d (.bool v4))] [] (Ret [] (.d (.int .i64 res))):=by
 unfold R7 at hh
 refine ci' rfl hh (fun hh=>?_) (fun hh=>?_)
 ·cases hh
  exact t' rfl (re' (rt' rfl rfl rfl))
 refine S' (t' rfl (ci' rfl hh (fun hh=>?_) (fun hh=>?_)))
 ·exact sk' (ew' (Il hh) rfl rfl rfl)
 refine t' rfl (ci' rfl hh (fun hh=>?_) (fun hh=>?_))
 ·exact sk' (ew' (Il hh) rfl rfl rfl)
 exact T' rfl (ew' (Il hh) rfl rfl rfl)
def Jh (op:Int):Option Int:=
 if (op == 0)=true then
  R7 op (op == 0)
 else
  if (op == 1)=true then
   R7 op (op == 1)
  else
   if (op == 2)=true then
    R7 op (op == 2)
   else
    R7 op (op == 3)
theorem T18 {op res}(hh:Jh op=some res):O0 C 172 [.d (.int .i64 op)] [] (Ret [] (.d (.int .i64 res))):=by
 unfold Jh at hh
 refine O0.intro hC Tryz.func172 rfl rfl rfl (t' rfl (S' (t' rfl (bk' (S' (t' rfl (ci' rfl hh (fun hh=>?_) (fun hh=>?_))))))))
 ·exact sk' (ew' (Ei hh) rfl rfl rfl)
 refine t' rfl (ci' rfl hh (fun hh=>?_) (fun hh=>?_))
 ·exact sk' (ew' (Ei hh) rfl rfl rfl)
 refine t' rfl (ci' rfl hh (fun hh=>?_) (fun hh=>?_))
 ·exact sk' (ew' (Ei hh) rfl rfl rfl)
 exact T' rfl (ew' (Ei hh) rfl rfl rfl)
def S0 (ok:Bool)(syntaxReport:J0):Option J0:=
 some (J0.mk syntaxReport.nodes syntaxReport.depth (bif syntaxReport.badForm then true else (!ok)) syntaxReport.badName syntaxReport.badNumber)
theorem W0 {ok syntaxReport res}(hh:S0 ok syntaxReport=some res):O0 C 171 [.ref 0 0,.d (.bool ok)] [.row (J0.cells syntaxReport) 142] (Ret [.row (J0.cells res) 142] (.tup [])):=by
 unfold S0 at hh
 cases hh
 exact O0.intro hC Tryz.func171 rfl rfl rfl (AEx.regionG 11 rfl (G' 7 rfl (a1' rfl (po' rfl (G' 2 rfl (an' (L0.s hC rfl (n' (rn' rfl rfl rfl)))))))))
def S7 (o0:A0):Option Bool:=
 if (bif (o0.Op == 4) then true else (o0.Op == 5))=true then
  if (((o0.Kids).length:Int) == 0)=true then
   some false
  else
   idx o0.Kids 0>>=fun x1=>
   S7 x1
 else
  some (o0.Op == 3)
 partial_fixpoint
abbrev Is (o0:A0)(res:Bool):Prop:=LM C 22 0 Tryz.f173 [1,0,4] [(1,.ref 0 0)] [.row (A0.cells o0) 40] (Ret [] (.d (.bool res)))
theorem X11:(∀ o0 res,S7 o0=some res→Is o0 res):=by
 refine S7.partial_correctness _ ?_
 ·intro g0 ih0 o0 res hh
  refine D1.unroll (S' (sg' 8 rfl (G' 5 rfl (a1' rfl (a1' rfl (po' rfl (an' (n' (ci' rfl hh (fun hh=>?_) (fun hh=>?_))))))))))
  ·refine sk' (bk' (S' (p' 2 rfl (qe' rfl trivial (A0.lenA _) (e' rfl (ci' rfl hh (fun hh=>?_) (fun hh=>?_)))))))
   ·cases hh
    exact t' rfl (re' (rt' rfl rfl rfl))
   obtain ⟨x1,hx1,hh⟩:=bs' hh
   exact sk' (P' 2 rfl (i' rfl (T0 hx1) (A0.idx hx1) rfl (q' rfl (L0.s hC rfl (n' (lw' (ih0 _ _ hh) rfl rfl rfl))))))
  cases hh
  exact ex' (t' rfl (re' (rt' rfl rfl rfl)))
theorem S13 {o0 res}(hh:S7 o0=some res):Is o0 res:=(X11) _ _ hh
def Ze (e:A0):Option Bool:=
 S7 e
theorem Zw {e res}(hh:Ze e=some res):O0 C 173 [.agg (A0.cells e)] [] (Ret [] (.d (.bool res))):=by
 unfold Ze at hh
 exact O0.intro hC Tryz.func173 rfl rfl rfl (s' rfl rfl (L0.n hC rfl (e' rfl (S' (bk' (fw' (S13 hh) rfl rfl rfl))))))
def Eh (c:Int):Option Bool:=
 some (bif (decide (c≥97)) then (decide (c≤122)) else false)
theorem Q15 {c res}(hh:Eh c=some res):O0 C 242 [.d (.int .u8 c)] [] (Ret [] (.d (.bool res))):=by
 unfold Eh at hh
 cases hh
 exact O0.intro hC Tryz.func242 rfl rfl rfl (t' rfl (sg' 7 rfl (G' 4 rfl (a1' rfl (pa' rfl (a0' rfl (an' (n' (re' (rt' rfl rfl rfl))))))))))
def Zh (c:Int):Option Bool:=
 some (bif (decide (c≥48)) then (decide (c≤57)) else false)
theorem A17 {c res}(hh:Zh c=some res):O0 C 243 [.d (.int .u8 c)] [] (Ret [] (.d (.bool res))):=by
 unfold Zh at hh
 cases hh
 exact O0.intro hC Tryz.func243 rfl rfl rfl (t' rfl (sg' 7 rfl (G' 4 rfl (a1' rfl (pa' rfl (a0' rfl (an' (n' (re' (rt' rfl rfl rfl))))))))))
def C5 (s:Str)(v6:Int):Option Bool:=
 if (decide (v6 < ((s).length:Int)))=true then
  idx s v6>>=fun x1=>
  Eh (x1.toNat:Int)>>=fun x2=>
  (if ((!x2)&&(!(v6 == 0)))=true then idx s v6 else some default)>>=fun x3=>
  (if ((!x2)&&(!(v6 == 0)))=true then Zh (x3.toNat:Int) else some default)>>=fun x4=>
  if (bif (!x2) then (bif (v6 == 0) then true else (!x4)) else false)=true then
   some false
  else
   C5 s (IntKind.i64.wrap (v6+1))
 else
  some (!(s == []))
 partial_fixpoint
abbrev Js (s:Str)(v6:Int)(res:Bool):Prop:=LM C 28 0 Tryz.f191 [1,0,1,4] [(0,.d (.str s)),(5,.d (.int .i64 ((s).length:Int))),(6,.d (.int .i64 v6))] [] (Ret [] (.d (.bool res)))
theorem Y11 (s:Str):(∀ v6 res,C5 s v6=some res→Js s v6 res):=by
 refine C5.partial_correctness s _ ?_
 ·intro g0 ih0 v6 res hh
  refine D1.unroll (t' rfl (S' (ci' rfl hh (fun hh=>?_) (fun hh=>?_))))
  ·obtain ⟨x1,hx1,hh⟩:=bs' hh
   obtain ⟨x2,hx2,hh⟩:=bs' hh
   obtain ⟨x3,hx3,hh⟩:=bs' hh
   obtain ⟨x4,hx4,hh⟩:=bs' hh
   refine sk' (S' (bk' (t' rfl (sg' 16 rfl (G' 2 rfl (AG.x hC rfl rfl (fun _=>trivial) (fun hw=>⟨T0 hx1,Bq hx1⟩) (AG.c rfl rfl (fun _=>trivial) (fun _=>Q15 hx2) (G' 3 rfl (a1' rfl (a1' rfl (G' 2 rfl (AG.x hC rfl rfl (fun hg=>⟨hg,hg,trivial⟩) (fun hw=>⟨T0 (W1 hw hx3),Bq (W1 hw hx3)⟩) (AG.c rfl rfl (fun hg=>⟨hg,trivial⟩) (fun hw=>A17 (W1 hw hx4)) ?_)))))))))))))
   refine a1' rfl (pO' rfl (pa' rfl (an' (n' (ci' rfl hh (fun hh=>?_) (fun hh=>?_))))))
   ·cases hh
    exact t' rfl (re' (rt' rfl rfl rfl))
   exact sk' (T' rfl (lw' (ih0 _ _ hh) rfl rfl rfl))
  cases hh
  exact ex' (t' rfl (re' (rt' rfl rfl rfl)))
theorem T13 {s v6 res}(hh:C5 s v6=some res):Js s v6 res:=(Y11 s) _ _ hh
def Jj (s:Str):Option Bool:=
 C5 s 0
theorem U18 {s res}(hh:Jj s=some res):O0 C 191 [.d (.str s)] [] (Ret [] (.d (.bool res))):=by
 unfold Jj at hh
 exact O0.intro hC Tryz.func191 rfl rfl rfl (t' rfl (S' (t' rfl (bk' (fw' (T13 hh) rfl rfl rfl)))))
def Ge (W4:Str):Option Bool:=
 (if (!(W4 == []))=true then Ek W4 [32] else some default)>>=fun x1=>
 if (!(bif (!(W4 == [])) then (!x1) else false)||(decide (1+W4.length≤maxLen)))=true then
  if (!(bif (!(W4 == [])) then (!x1) else false)||(decide (([32]++W4).length+1≤maxLen)))=true then
   (if (bif (!(W4 == [])) then (!x1) else false)=true then Ek [32,116,121,112,101,32,115,101,99,114,101,116,32,112,117,98,108,105,99,32,114,97,110,100,111,109,32,118,97,114,32,104,97,116,99,104,32,102,117,110,99,32,114,101,116,117,114,110,32,98,101,103,105,110,32,101,110,100,32,98,111,111,108,32,105,110,116,32,97,114,114,97,121,32,111,102,32,114,101,99,111,114,100,32,116,114,117,101,32,102,97,108,115,101,32,99,97,108,108,32,114,101,108,101,97,115,101,32,111,117,116,112,117,116,32,119,97,105,116,32,105,102,32,101,108,115,101,32,119,104,105,108,101,32,108,105,109,105,116,32,102,111,114,32,116,111,32,115,101,116,116,108,101,32,109,105,110,32,109,97,120,32] (([32]++W4)++[32]) else some default)>>=fun x2=>
   some (bif (bif (!(W4 == [])) then (!x1) else false) then x2 else false)
  else none
 else none
theorem R15 {W4 res}(hh:Ge W4=some res):O0 C 192 [.d (.str W4)] [] (Ret [] (.d (.bool res))):=by
 unfold Ge at hh
 obtain ⟨x1,hx1,hh⟩:=bs' hh
 obtain ⟨c9,hh⟩:=Y1c hh
 obtain ⟨c10,hh⟩:=Y1c hh
 obtain ⟨x2,hx2,hh⟩:=bs' hh
 cases hh
 refine O0.intro hC Tryz.func192 rfl rfl rfl (t' rfl (sg' 14 rfl (G' 4 rfl (AG.c rfl rfl (fun hg=>⟨hg,trivial⟩) (fun hw=>S11 (W1 hw hx1)) (a1' rfl (pa' rfl (G' 2 rfl (ag' rfl (fun hg=>⟨⟨hg,trivial⟩,(c9 hg)⟩) (ag' rfl (fun hg=>⟨⟨hg,trivial⟩,(c10 hg)⟩) (AG.c rfl rfl (fun hg=>⟨hg,trivial⟩) (fun hw=>S11 (W1 hw hx2)) (pa' rfl (a0' rfl (an' ?_)))))))))))))
 exact n' (re' (rt' rfl rfl rfl))
def Kj (s:Str):Option Bool:=
 (if (decide (((s).length:Int)≤12))=true then Jj s else some default)>>=fun x1=>
 (if (bif (decide (((s).length:Int)≤12)) then x1 else false)=true then Ge s else some default)>>=fun x2=>
 some (bif (bif (decide (((s).length:Int)≤12)) then x1 else false) then (!x2) else false)
theorem V18 {s res}(hh:Kj s=some res):O0 C 104 [.d (.str s)] [] (Ret [] (.d (.bool res))):=by
 unfold Kj at hh
 obtain ⟨x1,hx1,hh⟩:=bs' hh
 obtain ⟨x2,hx2,hh⟩:=bs' hh
 cases hh
 exact O0.intro hC Tryz.func104 rfl rfl rfl (t' rfl (sg' 13 rfl (G' 5 rfl (AG.c rfl rfl (fun hg=>⟨hg,trivial⟩) (fun hw=>U18 (W1 hw hx1)) (pa' rfl (G' 2 rfl (AG.c rfl rfl (fun hg=>⟨hg,trivial⟩) (fun hw=>R15 (W1 hw hx2)) (a1' rfl (pa' rfl (a0' rfl (an' (n' (re' (rt' rfl rfl rfl))))))))))))))
def Gg (s:Str):Option Bool:=
 Kj s>>=fun x1=>
 some x1
theorem B17 {s res}(hh:Gg s=some res):O0 C 48 [.d (.str s)] [] (Ret [] (.d (.bool res))):=by
 unfold Gg at hh
 obtain ⟨x1,hx1,hh⟩:=bs' hh
 cases hh
 exact O0.intro hC Tryz.func48 rfl rfl rfl (t' rfl (p' 1 rfl (c' (V18 hx1) rfl rfl (e' rfl (re' (rt' rfl rfl rfl))))))
def X2 (s:Str)(syntaxReport:J0):Option J0:=
 (if (!syntaxReport.badName)=true then Gg s else some default)>>=fun x1=>
 some (J0.mk syntaxReport.nodes syntaxReport.depth syntaxReport.badForm (bif syntaxReport.badName then true else (!x1)) syntaxReport.badNumber)
theorem Ka {s syntaxReport res}(hh:X2 s syntaxReport=some res):O0 C 174 [.ref 0 0,.d (.str s)] [.row (J0.cells syntaxReport) 142] (Ret [.row (J0.cells res) 142] (.tup [])):=by
 unfold X2 at hh
 obtain ⟨x1,hx1,hh⟩:=bs' hh
 cases hh
 exact O0.intro hC Tryz.func174 rfl rfl rfl (AEx.regionG 12 rfl (G' 7 rfl (AG.c rfl rfl (fun hg=>⟨hg,trivial⟩) (fun hw=>B17 (W1 hw hx1)) (a1' rfl (po' rfl (G' 2 rfl (an' (L0.s hC rfl (n' (rn' rfl rfl rfl))))))))))
def S2 (n:Int)(low:Int)(high:Int):Option Bool:=
 some (bif (decide (n≥low)) then (decide (n≤high)) else false)
theorem U3 {n low high res}(hh:S2 n low high=some res):O0 C 176 [.d (.int .i64 n),.d (.int .i64 low),.d (.int .i64 high)] [] (Ret [] (.d (.bool res))):=by
 unfold S2 at hh
 cases hh
 exact O0.intro hC Tryz.func176 rfl rfl rfl (t' rfl (sg' 9 rfl (G' 6 rfl (a2' rfl (pa' rfl (a0' rfl (an' (n' (re' (rt' rfl rfl rfl))))))))))
def Q1 (ok:Bool)(syntaxReport:J0):Option J0:=
 some (J0.mk syntaxReport.nodes syntaxReport.depth syntaxReport.badForm syntaxReport.badName (bif syntaxReport.badNumber then true else (!ok)))
theorem R2 {ok syntaxReport res}(hh:Q1 ok syntaxReport=some res):O0 C 175 [.ref 0 0,.d (.bool ok)] [.row (J0.cells syntaxReport) 142] (Ret [.row (J0.cells res) 142] (.tup [])):=by
 unfold Q1 at hh
 cases hh
 exact O0.intro hC Tryz.func175 rfl rfl rfl (AEx.regionG 11 rfl (G' 7 rfl (a1' rfl (po' rfl (G' 2 rfl (an' (L0.s hC rfl (n' (rn' rfl rfl rfl)))))))))
mutual
def C2 (e:A0)(depth:Int)(syntaxReport:J0):Option J0:=
 B5 depth (J0.mk (IntKind.i64.wrap (syntaxReport.nodes+1)) syntaxReport.depth syntaxReport.badForm syntaxReport.badName syntaxReport.badNumber)>>=fun x1=>
 Jh e.Op>>=fun x2=>
 S0 (x2 == ((e.Kids).length:Int)) x1>>=fun x3=>
 S0 (bif (e.NV == 0) then true else (e.Op == 0)) x3>>=fun x4=>
 S0 (bif (e.Name == []) then true else (bif (e.Op == 3) then true else (e.Op == 4))) x4>>=fun x5=>
 if (bif (e.Op == 4) then true else (e.Op == 5))=true then
  Ze e>>=fun x6=>
  S0 x6 x5>>=fun x7=>
  U5 e depth x7
 else
  U5 e depth x5
 partial_fixpoint
def U5 (e:A0)(depth:Int)(o0:J0):Option J0:=
 if (bif (e.Op == 3) then true else (e.Op == 4))=true then
  X2 e.Name o0>>=fun x8=>
  U7 e depth x8
 else
  U7 e depth o0
 partial_fixpoint
def U7 (e:A0)(depth:Int)(o01:J0):Option J0:=
 if (e.Op == 0)=true then
  S2 e.NV 0 1048576>>=fun x9=>
  Q1 x9 o01>>=fun x10=>
  V7 e depth x10
 else
  V7 e depth o01
 partial_fixpoint
def V7 (e:A0)(depth:Int)(o02:J0):Option J0:=
 C3 e depth o02 0
 partial_fixpoint
def C3 (e:A0)(depth:Int)(o03:J0)(v82:Int):Option J0:=
 if (decide (v82 < ((e.Kids).length:Int)))=true then
  idx e.Kids v82>>=fun x11=>
  C2 x11 (IntKind.i64.wrap (depth+1)) o03>>=fun x12=>
  C3 e depth x12 (IntKind.i64.wrap (v82+1))
 else
  some o03
 partial_fixpoint
end
abbrev Jo (e:A0)(depth:Int)(syntaxReport:J0)(res:J0):Prop:=O0 C 90 [.ref 0 0,.agg (A0.cells e),.d (.int .i64 depth)] [.row (J0.cells syntaxReport) 142] (Ret [.row (J0.cells res) 142] (.tup []))
abbrev Zv (e:A0)(depth:Int)(o0:J0)(res:J0):Prop:=JM C 92 1 Tryz.f90 [1,1,1,1,1,1,1,1] [(0,.ref 0 0),(2,.d (.int .i64 depth)),(4,.ref 1 0),(6,.d (.bool (bif (e.Op == 3) then true else (e.Op == 4))))] [.row (J0.cells o0) 142,.row (A0.cells e) 40] (Ret [.row (J0.cells res) 142] (.tup []))
abbrev Aw (e:A0)(depth:Int)(o01:J0)(res:J0):Prop:=JM C 92 1 Tryz.f90 [1,1,1,1,1,1,1,1,1] [(0,.ref 0 0),(2,.d (.int .i64 depth)),(4,.ref 1 0)] [.row (J0.cells o01) 142,.row (A0.cells e) 40] (Ret [.row (J0.cells res) 142] (.tup []))
abbrev Bw (e:A0)(depth:Int)(o02:J0)(res:J0):Prop:=JM C 92 1 Tryz.f90 [1,1,1,1,1,1,1,1,1,1] [(0,.ref 0 0),(2,.d (.int .i64 depth)),(4,.ref 1 0)] [.row (J0.cells o02) 142,.row (A0.cells e) 40] (Ret [.row (J0.cells res) 142] (.tup []))
abbrev Cw (e:A0)(depth:Int)(o03:J0)(v82:Int)(res:J0):Prop:=LM C 92 1 Tryz.f90 [1,1,1,1,1,1,1,1,1,1,1,4] [(0,.ref 0 0),(2,.d (.int .i64 depth)),(80,.d (.sl (A0.rows e.Kids))),(81,.d (.int .i64 ((e.Kids).length:Int))),(82,.d (.int .i64 v82))] [.row (J0.cells o03) 142] (Ret [.row (J0.cells res) 142] (.tup []))
theorem Ox:(∀ e depth syntaxReport res,C2 e depth syntaxReport=some res→Jo e depth syntaxReport res)∧(∀ e depth o0 res,U5 e depth o0=some res→Zv e depth o0 res)∧(∀ e depth o01 res,U7 e depth o01=some res→Aw e depth o01 res)∧(∀ e depth o02 res,V7 e depth o02=some res→Bw e depth o02 res)∧(∀ e depth o03 v82 res,C3 e depth o03 v82=some res→Cw e depth o03 v82 res):=by
 refine C2.mutual_partial_correctness _ _ _ _ _ ?_ ?_ ?_ ?_ ?_
 ·intro g1 ih1 e depth syntaxReport res hh
  obtain ⟨x1,hx1,hh⟩:=bs' hh
  obtain ⟨x2,hx2,hh⟩:=bs' hh
  obtain ⟨x3,hx3,hh⟩:=bs' hh
  obtain ⟨x4,hx4,hh⟩:=bs' hh
  obtain ⟨x5,hx5,hh⟩:=bs' hh
  refine O0.intro hC Tryz.func90 rfl rfl rfl (s' rfl rfl (L0.n hC rfl (n' (p' 7 rfl (L0.s hC rfl (n' (p' 2 rfl (g' [0] (Ij hx1) rfl rfl rfl rfl rfl rfl (n' (S' (AEx.draw hC 8 rfl rfl rfl (O' 3 rfl (Qc' (T18 hx2) rfl rfl ?_)))))))))))))
  refine O' 2 rfl (AQ.qe hC rfl trivial (A0.lenA _) (E' rfl (g' [0] (W0 hx3) rfl rfl rfl rfl rfl rfl (n' (sg' 9 rfl (G' 6 rfl (a1' rfl (a1' rfl (po' rfl (an' (g' [0] (W0 hx4) rfl rfl rfl rfl rfl rfl (n' (sg' 9 rfl ?_)))))))))))))
  refine G' 5 rfl (a1' rfl (a1' rfl (po' rfl (a0' rfl (an' (n' (sg' 7 rfl (G' 6 rfl (po' rfl (an' (g' [0] (W0 hx5) rfl rfl rfl rfl rfl rfl (n' (S' ?_)))))))))))))
  refine sg' 8 rfl (G' 5 rfl (a1' rfl (a1' rfl (po' rfl (an' (n' (ci' rfl hh (fun hh=>?_) (fun hh=>?_))))))))
  ·obtain ⟨x6,hx6,hh⟩:=bs' hh
   obtain ⟨x7,hx7,hh⟩:=bs' hh
   exact P' 2 rfl (c' (Zw hx6) rfl rfl (g' [0] (W0 hx7) rfl rfl rfl rfl rfl rfl (n' (ew' (ih1 _ _ _ _ hh) rfl rfl rfl))))
  exact sk' (ew' (ih1 _ _ _ _ hh) rfl rfl rfl)
 ·intro g2 ih2 e depth o0 res hh
  refine S' (t' rfl (ci' rfl hh (fun hh=>?_) (fun hh=>?_)))
  ·obtain ⟨x8,hx8,hh⟩:=bs' hh
   exact P' 3 rfl (g' [0] (Ka hx8) rfl rfl rfl rfl rfl rfl (n' (ew' (ih2 _ _ _ _ hh) rfl rfl rfl)))
  exact sk' (ew' (ih2 _ _ _ _ hh) rfl rfl rfl)
 ·intro g3 ih3 e depth o01 res hh
  refine S' (t' rfl (ci' rfl hh (fun hh=>?_) (fun hh=>?_)))
  ·obtain ⟨x9,hx9,hh⟩:=bs' hh
   obtain ⟨x10,hx10,hh⟩:=bs' hh
   exact P' 3 rfl (c' (U3 hx9) rfl rfl (g' [0] (R2 hx10) rfl rfl rfl rfl rfl rfl (n' (ew' (ih3 _ _ _ _ hh) rfl rfl rfl))))
  exact sk' (ew' (ih3 _ _ _ _ hh) rfl rfl rfl)
 ·intro g4 ih4 e depth o02 res hh
  exact p' 2 rfl (qe' rfl trivial (A0.lenA _) (e' rfl (bk' (fw' (ih4 _ _ _ _ _ hh) rfl rfl rfl))))
 ·intro g0 g4 ih0 ih4 e depth o03 v82 res hh
  refine D1.unroll (t' rfl (S' (ci' rfl hh (fun hh=>?_) (fun hh=>?_))))
  ·obtain ⟨x11,hx11,hh⟩:=bs' hh
   obtain ⟨x12,hx12,hh⟩:=bs' hh
   exact sk' (S' (bk' (s' rfl rfl (i' rfl (T0 hx11) (A0.idx hx11) rfl (q' rfl (L0.nf hC rfl (L0.s hC rfl (n' (P' 4 rfl (g' [0] (ih0 _ _ _ _ hx12) rfl rfl rfl rfl rfl rfl (n' (T' rfl (lw' (ih4 _ _ _ _ _ hh) rfl rfl rfl)))))))))))))
  cases hh
  exact ex' (rn' rfl rfl rfl)
theorem Lj {e depth syntaxReport res}(hh:C2 e depth syntaxReport=some res):Jo e depth syntaxReport res:=(Ox).1 _ _ _ _ hh
def D4 (syntaxReport:J0):Option Int:=
 if (bif (decide (syntaxReport.nodes > 1024)) then true else (decide (syntaxReport.depth > 12)))=true then
  some 4
 else
  if syntaxReport.badForm=true then
   some 1
  else
   if syntaxReport.badName=true then
    some 7
   else
    if syntaxReport.badNumber=true then
     some 3
    else
     some 0
theorem Mj {syntaxReport res}(hh:D4 syntaxReport=some res):O0 C 89 [.ref 0 0] [.row (J0.cells syntaxReport) 142] (Ret [.row (J0.cells syntaxReport) 142] (.d (.int .i64 res))):=by
 unfold D4 at hh
 refine O0.intro hC Tryz.func89 rfl rfl rfl (t' rfl (S' (bk' (sg' 13 rfl (G' 7 rfl (a1' rfl (a1' rfl (a1' rfl (a1' rfl (po' rfl (a0' rfl (an' (n' (ci' rfl hh (fun hh=>?_) (fun hh=>?_)))))))))))))))
 ·cases hh
  exact t' rfl (re' (rt' rfl rfl rfl))
 refine t' rfl (ci' rfl hh (fun hh=>?_) (fun hh=>?_))
 ·cases hh
  exact t' rfl (re' (rt' rfl rfl rfl))
 refine t' rfl (ci' rfl hh (fun hh=>?_) (fun hh=>?_))
 ·cases hh
  exact t' rfl (re' (rt' rfl rfl rfl))
 refine t' rfl (ci' rfl hh (fun hh=>?_) (fun hh=>?_))
 ·cases hh
  exact t' rfl (re' (rt' rfl rfl rfl))
 cases hh
 exact sk' (t' rfl (re' (rt' rfl rfl rfl)))
def He (e:A0):Option Int:=
 C2 e 1 (J0.mk 0 0 false false false)>>=fun x1=>
 D4 x1>>=fun x2=>
 some x2
theorem Np {e res}(hh:He e=some res):O0 C 40 [.agg (A0.cells e)] [] (Ret [] (.d (.int .i64 res))):=by
 unfold He at hh
 obtain ⟨x1,hx1,hh⟩:=bs' hh
 obtain ⟨x2,hx2,hh⟩:=bs' hh
 cases hh
 exact O0.intro hC Tryz.func40 rfl rfl rfl (s' rfl rfl (L0.n hC rfl (e' rfl (p' 1 rfl (L0.n hC rfl (e' rfl (p' 2 rfl (g' [1] (Lj hx1) rfl rfl rfl rfl rfl rfl (n' (p' 1 rfl (g' [1] (Mj hx2) rfl rfl rfl rfl rfl rfl (e' rfl (re' (rt' rfl rfl rfl))))))))))))))
def Tb (op:Int)(v20:Bool):Option Int:=
 if v20=true then
  some 5
 else
  if (op == 6)=true then
   if (op == 6)=true then
    some 6
   else
    some 7
  else
   if (op == 7)=true then
    some 6
   else
    some 7
theorem Jl {op v20 res}(hh:Tb op v20=some res):JM C 27 0 Tryz.f224 [1,0,1,4,1,3,1,3,1,3,1,3,1,3,1] [(3,.d (.int .i64 op)),(20,.d (.bool v20))] [] (Ret [] (.d (.int .i64 res))):=by
 unfold Tb at hh
 refine ci' rfl hh (fun hh=>?_) (fun hh=>?_)
 ·cases hh
  exact t' rfl (re' (rt' rfl rfl rfl))
 refine S' (t' rfl (ci' rfl hh (fun hh=>?_) (fun hh=>?_)))
 ·refine sk' (ci' rfl hh (fun hh=>?_) (fun hh=>?_))
  ·cases hh
   exact t' rfl (re' (rt' rfl rfl rfl))
  cases hh
  exact sk' (t' rfl (re' (rt' rfl rfl rfl)))
 refine T' rfl (ci' rfl hh (fun hh=>?_) (fun hh=>?_))
 ·cases hh
  exact t' rfl (re' (rt' rfl rfl rfl))
 cases hh
 exact sk' (t' rfl (re' (rt' rfl rfl rfl)))
def Rf (op:Int)(v17:Bool):Option Int:=
 if v17=true then
  some 4
 else
  if (op == 10)=true then
   Tb op (op == 10)
  else
   if (op == 11)=true then
    Tb op (op == 11)
   else
    Tb op (op == 12)
theorem Er {op v17 res}(hh:Rf op v17=some res):JM C 27 0 Tryz.f224 [1,0,1,4,1,3,1,3,1,3,1,3,1] [(3,.d (.int .i64 op)),(17,.d (.bool v17))] [] (Ret [] (.d (.int .i64 res))):=by
 unfold Rf at hh
 refine ci' rfl hh (fun hh=>?_) (fun hh=>?_)
 ·cases hh
  exact t' rfl (re' (rt' rfl rfl rfl))
 refine S' (t' rfl (ci' rfl hh (fun hh=>?_) (fun hh=>?_)))
 ·exact sk' (ew' (Jl hh) rfl rfl rfl)
 refine t' rfl (ci' rfl hh (fun hh=>?_) (fun hh=>?_))
 ·exact sk' (ew' (Jl hh) rfl rfl rfl)
 exact T' rfl (ew' (Jl hh) rfl rfl rfl)
def A6 (op:Int)(v10:Bool):Option Int:=
 if v10=true then
  some 3
 else
  if (op == 8)=true then
   Rf op (op == 8)
  else
   Rf op (op == 9)
theorem La {op v10 res}(hh:A6 op v10=some res):JM C 27 0 Tryz.f224 [1,0,1,4,1,3,1,3,1,3,1] [(3,.d (.int .i64 op)),(10,.d (.bool v10))] [] (Ret [] (.d (.int .i64 res))):=by
 unfold A6 at hh
 refine ci' rfl hh (fun hh=>?_) (fun hh=>?_)
 ·cases hh
  exact t' rfl (re' (rt' rfl rfl rfl))
 refine S' (t' rfl (ci' rfl hh (fun hh=>?_) (fun hh=>?_)))
 ·exact sk' (ew' (Er hh) rfl rfl rfl)
 exact T' rfl (ew' (Er hh) rfl rfl rfl)
def Nj (op:Int):Option Int:=
 if (op == 23)=true then
  some 0
 else
  if (op == 20)=true then
   some 1
  else
   if (op == 19)=true then
    some 2
   else
    if (op == 13)=true then
     A6 op (op == 13)
    else
     if (op == 14)=true then
      A6 op (op == 14)
     else
      if (op == 15)=true then
       A6 op (op == 15)
      else
       if (op == 16)=true then
        A6 op (op == 16)
       else
        if (op == 17)=true then
         A6 op (op == 17)
        else
         A6 op (op == 18)
theorem Ax {op res}(hh:Nj op=some res):O0 C 224 [.d (.int .i64 op)] [] (Ret [] (.d (.int .i64 res))):=by
 unfold Nj at hh
 refine O0.intro hC Tryz.func224 rfl rfl rfl (t' rfl (S' (t' rfl (bk' (t' rfl (ci' rfl hh (fun hh=>?_) (fun hh=>?_)))))))
 ·cases hh
  exact t' rfl (re' (rt' rfl rfl rfl))
 refine t' rfl (ci' rfl hh (fun hh=>?_) (fun hh=>?_))
 ·cases hh
  exact t' rfl (re' (rt' rfl rfl rfl))
 refine t' rfl (ci' rfl hh (fun hh=>?_) (fun hh=>?_))
 ·cases hh
  exact t' rfl (re' (rt' rfl rfl rfl))
 refine S' (t' rfl (ci' rfl hh (fun hh=>?_) (fun hh=>?_)))
 ·exact sk' (ew' (La hh) rfl rfl rfl)
 refine t' rfl (ci' rfl hh (fun hh=>?_) (fun hh=>?_))
 ·exact sk' (ew' (La hh) rfl rfl rfl)
 refine t' rfl (ci' rfl hh (fun hh=>?_) (fun hh=>?_))
 ·exact sk' (ew' (La hh) rfl rfl rfl)
 refine t' rfl (ci' rfl hh (fun hh=>?_) (fun hh=>?_))
 ·exact sk' (ew' (La hh) rfl rfl rfl)
 refine t' rfl (ci' rfl hh (fun hh=>?_) (fun hh=>?_))
 ·exact sk' (ew' (La hh) rfl rfl rfl)
 exact T' rfl (ew' (La hh) rfl rfl rfl)
mutual
def A1 (e:A0)(b:Str):Option Str:=
 if (e.Op == 0)=true then
  Hj e.NV>>=fun x1=>
  I0 x1 b>>=fun x2=>
  some x2.2
 else
  if (e.Op == 1)=true then
   I0 [116,114,117,101] b>>=fun x3=>
   some x3.2
  else
   if (e.Op == 2)=true then
    I0 [102,97,108,115,101] b>>=fun x4=>
    some x4.2
   else
    if (e.Op == 3)=true then
     I0 e.Name b>>=fun x5=>
     some x5.2
    else
     if (e.Op == 4)=true then
      idx e.Kids 0>>=fun x6=>
      A1 x6 b>>=fun x14=>
      if (decide (1+e.Name.length≤maxLen))=true then
       I0 ([46]++e.Name) x14>>=fun x15=>
       some x15.2
      else none
     else
      if (e.Op == 5)=true then
       idx e.Kids 0>>=fun x7=>
       A1 x7 b>>=fun x16=>
       I0 [91] x16>>=fun x17=>
       idx e.Kids 1>>=fun x18=>
       A1 x18 x17.2>>=fun x19=>
       I0 [93] x19>>=fun x20=>
       some x20.2
      else
       if (e.Op == 6)=true then
        T9 e b (e.Op == 6)
       else
        T9 e b (e.Op == 7)
 partial_fixpoint
def T9 (e:A0)(b:Str)(v77:Bool):Option Str:=
 if v77=true then
  if (e.Op == 7)=true then
   W9 e b [33]
  else
   W9 e b [45]
 else
  if (e.Op == 21)=true then
   U9 e b (e.Op == 21)
  else
   U9 e b (e.Op == 22)
 partial_fixpoint
def U9 (e:A0)(b:Str)(v94:Bool):Option Str:=
 if v94=true then
  if (e.Op == 22)=true then
   V9 e b [109,97,120,40]
  else
   V9 e b [109,105,110,40]
 else
  if (e.Op == 23)=true then
   idx e.Kids 0>>=fun x13=>
   A8 x13 1 b>>=fun x22=>
   I0 [32,63,32] x22>>=fun x23=>
   idx e.Kids 1>>=fun x24=>
   A1 x24 x23.2>>=fun x25=>
   I0 [32,58,32] x25>>=fun x26=>
   idx e.Kids 2>>=fun x27=>
   A1 x27 x26.2>>=fun x28=>
   some x28
  else
   Sf e b>>=fun x29=>
   some x29
 partial_fixpoint
def Sf (e:A0)(b:Str):Option Str:=
 Nj e.Op>>=fun x1=>
 if (x1 == 3)=true then
  Z7 e b x1 4
 else
  Z7 e b x1 x1
 partial_fixpoint
def Z7 (e:A0)(b:Str)(x1:Int)(left:Int):Option Str:=
 idx e.Kids 0>>=fun x2=>
 A8 x2 left b>>=fun x3=>
 idx Dr (IntKind.i64.wrap (e.Op - 8))>>=fun x4=>
 if (decide (1+x4.length≤maxLen))=true then
  if (decide (([32]++x4).length+1≤maxLen))=true then
   I0 (([32]++x4)++[32]) x3>>=fun x5=>
   idx e.Kids 1>>=fun x6=>
   A8 x6 (IntKind.i64.wrap (x1+1)) x5.2>>=fun x7=>
   some x7
  else none
 else none
 partial_fixpoint
def A8 (e:A0)(required:Int)(b:Str):Option Str:=
 Nj e.Op>>=fun x1=>
 if (decide (x1≥required))=true then
  A1 e b>>=fun x3=>
  some x3
 else
  I0 [40] b>>=fun x2=>
  A1 e x2.2>>=fun x4=>
  I0 [41] x4>>=fun x5=>
  some x5.2
 partial_fixpoint
def V9 (e:A0)(b:Str)(W4:Str):Option Str:=
 I0 W4 b>>=fun x10=>
 Q7 e.Kids x10.2>>=fun x11=>
 I0 [41] x11>>=fun x12=>
 some x12.2
 partial_fixpoint
def Q7 (l:List A0)(b:Str):Option Str:=
 B7 l b 0
 partial_fixpoint
def B7 (l:List A0)(b1:Str)(v8:Int):Option Str:=
 if (decide (v8 < ((l).length:Int)))=true then
  idx l v8>>=fun x1=>
  if (decide (v8 > 0))=true then
   I0 [44,32] b1>>=fun x3=>
   A1 x1 x3.2>>=fun x2=>
   B7 l x2 (IntKind.i64.wrap (v8+1))
  else
   A1 x1 b1>>=fun x2=>
   B7 l x2 (IntKind.i64.wrap (v8+1))
 else
  some b1
 partial_fixpoint
def W9 (e:A0)(b:Str)(sign:Str):Option Str:=
 I0 sign b>>=fun x8=>
 idx e.Kids 0>>=fun x9=>
 A8 x9 6 x8.2>>=fun x21=>
 some x21
 partial_fixpoint
end
abbrev Un (e:A0)(b:Str)(res:Str):Prop:=O0 C 83 [.ref 0 0,.agg (A0.cells e)] [.bld 1 129,.buf 5 b] (Ret [.bld 1 129,.buf 5 res] (.tup []))
abbrev Nu (e:A0)(b:Str)(v77:Bool)(res:Str):Prop:=JM C 141 2 Tryz.f83 [1,1,4,1,3,1,3,1,3,1,3,1,3,1,3,1] [(0,.ref 0 0),(3,.ref 2 0),(7,.d (.int .i64 e.Op)),(77,.d (.bool v77))] [.bld 1 129,.buf 5 b,.row (A0.cells e) 40] (Ret [.bld 1 129,.buf 5 res] (.tup []))
abbrev Ou (e:A0)(b:Str)(v94:Bool)(res:Str):Prop:=JM C 141 2 Tryz.f83 [1,1,4,1,3,1,3,1,3,1,3,1,3,1,3,1,3,1] [(0,.ref 0 0),(3,.ref 2 0),(7,.d (.int .i64 e.Op)),(94,.d (.bool v94))] [.bld 1 129,.buf 5 b,.row (A0.cells e) 40] (Ret [.bld 1 129,.buf 5 res] (.tup []))
abbrev Dw (e:A0)(b:Str)(res:Str):Prop:=O0 C 159 [.ref 0 0,.agg (A0.cells e)] [.bld 1 129,.buf 5 b] (Ret [.bld 1 129,.buf 5 res] (.tup []))
abbrev Bs (e:A0)(b:Str)(x1:Int)(left:Int)(res:Str):Prop:=JM C 38 2 Tryz.f159 [1,1,1,1] [(0,.ref 0 0),(3,.ref 2 0),(4,.d (.int .i64 x1)),(5,.d (.int .i64 left))] [.bld 1 129,.buf 5 b,.row (A0.cells e) 40] (Ret [.bld 1 129,.buf 5 res] (.tup []))
abbrev A10 (e:A0)(required:Int)(b:Str)(res:Str):Prop:=O0 C 157 [.ref 0 0,.agg (A0.cells e),.d (.int .i64 required)] [.bld 1 129,.buf 5 b] (Ret [.bld 1 129,.buf 5 res] (.tup []))
abbrev Pu (e:A0)(b:Str)(W4:Str)(res:Str):Prop:=JM C 141 2 Tryz.f83 [1,1,4,1,3,1,3,1,3,1,3,1,3,1,3,1,3,1,2,1,1] [(0,.ref 0 0),(3,.ref 2 0),(5,.d (.str W4))] [.bld 1 129,.buf 5 b,.row (A0.cells e) 40] (Ret [.bld 1 129,.buf 5 res] (.tup []))
abbrev Vn (l:List A0)(b:Str)(res:Str):Prop:=O0 C 158 [.ref 0 0,.d (.sl (A0.rows l))] [.bld 1 129,.buf 5 b] (Ret [.bld 1 129,.buf 5 res] (.tup []))
abbrev Qu (l:List A0)(b1:Str)(v8:Int)(res:Str):Prop:=LM C 23 2 Tryz.f158 [1,4] [(0,.ref 0 0),(6,.d (.sl (A0.rows l))),(7,.d (.int .i64 ((l).length:Int))),(8,.d (.int .i64 v8))] [.bld 1 129,.buf 5 b1] (Ret [.bld 1 129,.buf 5 res] (.tup []))
abbrev Ru (e:A0)(b:Str)(sign:Str)(res:Str):Prop:=JM C 141 2 Tryz.f83 [1,1,4,1,3,1,3,1,3,1,3,1,3,1,3,1,2,1,1] [(0,.ref 0 0),(3,.ref 2 0),(4,.d (.str sign))] [.bld 1 129,.buf 5 b,.row (A0.cells e) 40] (Ret [.bld 1 129,.buf 5 res] (.tup []))
theorem Bm:(∀ e b res,A1 e b=some res→Un e b res)∧(∀ e b v77 res,T9 e b v77=some res→Nu e b v77 res)∧(∀ e b v94 res,U9 e b v94=some res→Ou e b v94 res)∧(∀ e b res,Sf e b=some res→Dw e b res)∧(∀ e b x1 left res,Z7 e b x1 left=some res→Bs e b x1 left res)∧(∀ e required b res,A8 e required b=some res→A10 e required b res)∧(∀ e b W4 res,V9 e b W4=some res→Pu e b W4 res)∧(∀ l b res,Q7 l b=some res→Vn l b res)∧(∀ l b1 v8 res,B7 l b1 v8=some res→Qu l b1 v8 res)∧(∀ e b sign res,W9 e b sign=some res→Ru e b sign res):=by
 refine A1.mutual_partial_correctness _ _ _ _ _ _ _ _ _ _ ?_ ?_ ?_ ?_ ?_ ?_ ?_ ?_ ?_ ?_
 ·intro g0 g1 ih0 ih1 e b res hh
  refine O0.intro hC Tryz.func83 rfl rfl rfl (s' rfl rfl (L0.n hC rfl (n' (t' rfl (bk' (t' rfl (ci' rfl hh (fun hh=>?_) (fun hh=>?_))))))))
  ·obtain ⟨x1,hx1,hh⟩:=bs' hh
   obtain ⟨x2,hx2,hh⟩:=bs' hh
   cases hh
   exact AEx.draw hC 6 rfl rfl rfl (O' 5 rfl (Qc' (Ch hx1) rfl rfl (Qn' (g' [0,1] (K0 hx2) rfl rfl rfl rfl rfl rfl (n' (rn' rfl rfl rfl))))))
  refine t' rfl (ci' rfl hh (fun hh=>?_) (fun hh=>?_))
  ·obtain ⟨x3,hx3,hh⟩:=bs' hh
   cases hh
   exact P' 3 rfl (g' [0,1] (K0 hx3) rfl rfl rfl rfl rfl rfl (n' (rn' rfl rfl rfl)))
  refine t' rfl (ci' rfl hh (fun hh=>?_) (fun hh=>?_))
  ·obtain ⟨x4,hx4,hh⟩:=bs' hh
   cases hh
   exact P' 3 rfl (g' [0,1] (K0 hx4) rfl rfl rfl rfl rfl rfl (n' (rn' rfl rfl rfl)))
  refine t' rfl (ci' rfl hh (fun hh=>?_) (fun hh=>?_))
  ·obtain ⟨x5,hx5,hh⟩:=bs' hh
   cases hh
   exact AEx.draw hC 5 rfl rfl rfl (E' rfl (g' [0,1] (K0 hx5) rfl rfl rfl rfl rfl rfl (n' (rn' rfl rfl rfl))))
  refine t' rfl (ci' rfl hh (fun hh=>?_) (fun hh=>?_))
  ·obtain ⟨x6,hx6,hh⟩:=bs' hh
   obtain ⟨x14,hx14,hh⟩:=bs' hh
   obtain ⟨c4,hh⟩:=X0 hh
   obtain ⟨x15,hx15,hh⟩:=bs' hh
   cases hh
   exact p' 3 rfl (i' rfl (T0 hx6) (A0.idx hx6) rfl (q' rfl (g' [0,1] (ih0 _ _ _ hx14) rfl rfl rfl rfl rfl rfl (n' (AEx.draw hC 6 rfl rfl rfl (O' 5 rfl (AQ.q hC rfl c4 (Qn' (g' [0,1] (K0 hx15) rfl rfl rfl rfl rfl rfl (n' (rn' rfl rfl rfl)))))))))))
  refine t' rfl (ci' rfl hh (fun hh=>?_) (fun hh=>?_))
  ·obtain ⟨x7,hx7,hh⟩:=bs' hh
   obtain ⟨x16,hx16,hh⟩:=bs' hh
   obtain ⟨x17,hx17,hh⟩:=bs' hh
   obtain ⟨x18,hx18,hh⟩:=bs' hh
   obtain ⟨x19,hx19,hh⟩:=bs' hh
   obtain ⟨x20,hx20,hh⟩:=bs' hh
   cases hh
   refine p' 3 rfl (i' rfl (T0 hx7) (A0.idx hx7) rfl (q' rfl (g' [0,1] (ih0 _ _ _ hx16) rfl rfl rfl rfl rfl rfl (n' (p' 3 rfl (g' [0,1] (K0 hx17) rfl rfl rfl rfl rfl rfl (n' (p' 3 rfl (i' rfl (T0 hx18) (A0.idx hx18) rfl (q' rfl (g' [0,1] (ih0 _ _ _ hx19) rfl rfl rfl rfl rfl rfl (n' (P' 3 rfl ?_)))))))))))))
   exact g' [0,1] (K0 hx20) rfl rfl rfl rfl rfl rfl (n' (rn' rfl rfl rfl))
  refine S' (t' rfl (ci' rfl hh (fun hh=>?_) (fun hh=>?_)))
  ·exact sk' (ew' (ih1 _ _ _ _ hh) rfl rfl rfl)
  exact T' rfl (ew' (ih1 _ _ _ _ hh) rfl rfl rfl)
 ·intro g2 g9 ih2 ih9 e b v77 res hh
  refine ci' rfl hh (fun hh=>?_) (fun hh=>?_)
  ·refine t' rfl (S' (t' rfl (ci' rfl hh (fun hh=>?_) (fun hh=>?_))))
   ·exact T' rfl (ew' (ih9 _ _ _ _ hh) rfl rfl rfl)
   exact sk' (ew' (ih9 _ _ _ _ hh) rfl rfl rfl)
  refine S' (t' rfl (ci' rfl hh (fun hh=>?_) (fun hh=>?_)))
  ·exact sk' (ew' (ih2 _ _ _ _ hh) rfl rfl rfl)
  exact T' rfl (ew' (ih2 _ _ _ _ hh) rfl rfl rfl)
 ·intro g0 g3 g5 g6 ih0 ih3 ih5 ih6 e b v94 res hh
  refine ci' rfl hh (fun hh=>?_) (fun hh=>?_)
  ·refine t' rfl (S' (t' rfl (ci' rfl hh (fun hh=>?_) (fun hh=>?_))))
   ·exact T' rfl (ew' (ih6 _ _ _ _ hh) rfl rfl rfl)
   exact sk' (ew' (ih6 _ _ _ _ hh) rfl rfl rfl)
  refine t' rfl (ci' rfl hh (fun hh=>?_) (fun hh=>?_))
  ·obtain ⟨x13,hx13,hh⟩:=bs' hh
   obtain ⟨x22,hx22,hh⟩:=bs' hh
   obtain ⟨x23,hx23,hh⟩:=bs' hh
   obtain ⟨x24,hx24,hh⟩:=bs' hh
   obtain ⟨x25,hx25,hh⟩:=bs' hh
   obtain ⟨x26,hx26,hh⟩:=bs' hh
   obtain ⟨x27,hx27,hh⟩:=bs' hh
   obtain ⟨x28,hx28,hh⟩:=bs' hh
   cases hh
   refine p' 3 rfl (i' rfl (T0 hx13) (A0.idx hx13) rfl (q' rfl (g' [0,1] (ih5 _ _ _ _ hx22) rfl rfl rfl rfl rfl rfl (n' (p' 3 rfl (g' [0,1] (K0 hx23) rfl rfl rfl rfl rfl rfl (n' (p' 3 rfl (i' rfl (T0 hx24) (A0.idx hx24) rfl (q' rfl (g' [0,1] (ih0 _ _ _ hx25) rfl rfl rfl rfl rfl rfl (n' (p' 3 rfl ?_)))))))))))))
   exact g' [0,1] (K0 hx26) rfl rfl rfl rfl rfl rfl (n' (P' 3 rfl (i' rfl (T0 hx27) (A0.idx hx27) rfl (q' rfl (g' [0,1] (ih0 _ _ _ hx28) rfl rfl rfl rfl rfl rfl (n' (rn' rfl rfl rfl)))))))
  obtain ⟨x29,hx29,hh⟩:=bs' hh
  cases hh
  exact P' 2 rfl (g' [0,1] (ih3 _ _ _ hx29) rfl rfl rfl rfl rfl rfl (n' (rn' rfl rfl rfl)))
 ·intro g4 ih4 e b res hh
  obtain ⟨x1,hx1,hh⟩:=bs' hh
  refine O0.intro hC Tryz.func159 rfl rfl rfl (s' rfl rfl (L0.n hC rfl (n' (p' 2 rfl (c' (Ax hx1) rfl rfl (e' rfl (t' rfl (S' (t' rfl (ci' rfl hh (fun hh=>?_) (fun hh=>?_)))))))))))
  ·exact T' rfl (ew' (ih4 _ _ _ _ _ hh) rfl rfl rfl)
  exact sk' (ew' (ih4 _ _ _ _ _ hh) rfl rfl rfl)
 ·intro g5 ih5 e b x1 left res hh
  obtain ⟨x2,hx2,hh⟩:=bs' hh
  obtain ⟨x3,hx3,hh⟩:=bs' hh
  obtain ⟨x4,hx4,hh⟩:=bs' hh
  obtain ⟨c7,hh⟩:=X0 hh
  obtain ⟨c8,hh⟩:=X0 hh
  obtain ⟨x5,hx5,hh⟩:=bs' hh
  obtain ⟨x6,hx6,hh⟩:=bs' hh
  obtain ⟨x7,hx7,hh⟩:=bs' hh
  cases hh
  refine p' 3 rfl (i' rfl (T0 hx2) (A0.idx hx2) rfl (o' 2 rfl (g' [0,1] (ih5 _ _ _ _ hx3) rfl rfl rfl rfl rfl rfl (n' (S' (AEx.draw hC 10 rfl rfl rfl (O' 6 rfl (AQ.ig hC rfl (T0 hx4) (T1f (f:=D.str) hx4).1 (T1f (f:=D.str) hx4).2 (Q' rfl (AQ.q hC rfl c7 (AQ.q hC rfl c8 (Qn' (g' [0,1] (K0 hx5) rfl rfl rfl rfl rfl rfl ?_)))))))))))))
  exact n' (P' 3 rfl (i' rfl (T0 hx6) (A0.idx hx6) rfl (o' 3 rfl (g' [0,1] (ih5 _ _ _ _ hx7) rfl rfl rfl rfl rfl rfl (n' (rn' rfl rfl rfl))))))
 ·intro g0 ih0 e required b res hh
  obtain ⟨x1,hx1,hh⟩:=bs' hh
  refine O0.intro hC Tryz.func157 rfl rfl rfl (s' rfl rfl (L0.n hC rfl (n' (S' (p' 2 rfl (c' (Ax hx1) rfl rfl (e' rfl (ci' rfl hh (fun hh=>?_) (fun hh=>?_)))))))))
  ·obtain ⟨x3,hx3,hh⟩:=bs' hh
   cases hh
   exact p' 2 rfl (g' [0,1] (ih0 _ _ _ hx3) rfl rfl rfl rfl rfl rfl (n' (re' (rt' rfl rfl rfl))))
  obtain ⟨x2,hx2,hh⟩:=bs' hh
  obtain ⟨x4,hx4,hh⟩:=bs' hh
  obtain ⟨x5,hx5,hh⟩:=bs' hh
  cases hh
  exact sk' (p' 3 rfl (g' [0,1] (K0 hx2) rfl rfl rfl rfl rfl rfl (n' (p' 2 rfl (g' [0,1] (ih0 _ _ _ hx4) rfl rfl rfl rfl rfl rfl (n' (P' 3 rfl (g' [0,1] (K0 hx5) rfl rfl rfl rfl rfl rfl (n' (rn' rfl rfl rfl))))))))))
 ·intro g7 ih7 e b W4 res hh
  obtain ⟨x10,hx10,hh⟩:=bs' hh
  obtain ⟨x11,hx11,hh⟩:=bs' hh
  obtain ⟨x12,hx12,hh⟩:=bs' hh
  cases hh
  exact p' 4 rfl (g' [0,1] (K0 hx10) rfl rfl rfl rfl rfl rfl (n' (p' 3 rfl (g' [0,1] (ih7 _ _ _ hx11) rfl rfl rfl rfl rfl rfl (n' (P' 3 rfl (g' [0,1] (K0 hx12) rfl rfl rfl rfl rfl rfl (n' (rn' rfl rfl rfl)))))))))
 ·intro g8 ih8 l b res hh
  exact O0.intro hC Tryz.func158 rfl rfl rfl (p' 1 rfl (qe' rfl trivial (A0.lenA _) (e' rfl (bk' (fw' (ih8 _ _ _ _ hh) rfl rfl rfl)))))
 ·intro g0 g8 ih0 ih8 l b1 v8 res hh
  refine D1.unroll (t' rfl (S' (ci' rfl hh (fun hh=>?_) (fun hh=>?_))))
  ·obtain ⟨x1,hx1,hh⟩:=bs' hh
   refine sk' (S' (bk' (p' 1 rfl (i' rfl (T0 hx1) (A0.idx hx1) rfl (q' rfl (L0.nf hC rfl (q' rfl (L0.s hC rfl (n' (S' (t' rfl (ci' rfl hh (fun hh=>?_) (fun hh=>?_)))))))))))))
   ·obtain ⟨x3,hx3,hh⟩:=bs' hh
    obtain ⟨x2,hx2,hh⟩:=bs' hh
    exact P' 3 rfl (g' [0,1] (K0 hx3) rfl rfl rfl rfl rfl rfl (n' (P' 2 rfl (g' [0,1] (ih0 _ _ _ hx2) rfl rfl rfl rfl rfl rfl (n' (T' rfl (lw' (ih8 _ _ _ _ hh) rfl rfl rfl)))))))
   obtain ⟨x2,hx2,hh⟩:=bs' hh
   exact sk' (P' 2 rfl (g' [0,1] (ih0 _ _ _ hx2) rfl rfl rfl rfl rfl rfl (n' (T' rfl (lw' (ih8 _ _ _ _ hh) rfl rfl rfl)))))
  cases hh
  exact ex' (rn' rfl rfl rfl)
 ·intro g5 ih5 e b sign res hh
  obtain ⟨x8,hx8,hh⟩:=bs' hh
  obtain ⟨x9,hx9,hh⟩:=bs' hh
  obtain ⟨x21,hx21,hh⟩:=bs' hh
  cases hh
  exact p' 4 rfl (g' [0,1] (K0 hx8) rfl rfl rfl rfl rfl rfl (n' (P' 3 rfl (i' rfl (T0 hx9) (A0.idx hx9) rfl (q' rfl (g' [0,1] (ih5 _ _ _ _ hx21) rfl rfl rfl rfl rfl rfl (n' (rn' rfl rfl rfl))))))))
theorem T2 {e b res}(hh:A1 e b=some res):Un e b res:=(Bm).1 _ _ _ hh
theorem Px {l b res}(hh:Q7 l b=some res):Vn l b res:=(Bm).2.2.2.2.2.2.2.1 _ _ _ hh
def Q9 (b:Str):Option (Str×Int):=
 Fk b>>=fun x1=>
 if (decide (x1 > 8192))=true then
  some ([],5)
 else
  Th b>>=fun x2=>
  some (x2,0)
theorem Pm {b res}(hh:Q9 b=some res):O0 C 84 [.ref 0 0] [.bld 1 129,.buf 5 b] (Ret [.dead,.dead] (.tup [.d (.str res.1),.d (.int .i64 res.2)])):=by
 unfold Q9 at hh
 obtain ⟨x1,hx1,hh⟩:=bs' hh
 refine O0.intro hC Tryz.func84 rfl rfl rfl (t' rfl (S' (p' 3 rfl (g' [0,1] (Xv hx1) rfl rfl rfl rfl rfl rfl (e' rfl (ci' rfl hh (fun hh=>?_) (fun hh=>?_)))))))
 ·refine t' rfl (re' ?_)
  obtain rfl:=oi' hh
  exact ⟨_,_,[.dead,.dead],rfl,.rfl,⟨trivial,trivial,trivial⟩,rfl,rfl,rfl,rfl⟩
 obtain ⟨x2,hx2,hh⟩:=bs' hh
 refine sk' (p' 3 rfl (g' [0,1] (As hx2) rfl rfl rfl rfl rfl rfl (e' rfl (re' ?_))))
 obtain rfl:=oi' hh
 exact ⟨_,_,[.dead,.dead],rfl,.rfl,⟨trivial,trivial,trivial⟩,rfl,rfl,rfl,rfl⟩
def Ia (e:A0):Option (Str×Int):=
 He e>>=fun x1=>
 if (x1 != 0)=true then
  some ([],x1)
 else
  A1 e []>>=fun x2=>
  Q9 x2>>=fun x3=>
  some (x3.1,x3.2)
theorem Yk {e res}(hh:Ia e=some res):O0 C 34 [.agg (A0.cells e)] [] (Ret [] (.tup [.d (.str res.1),.d (.int .i64 res.2)])):=by
 unfold Ia at hh
 obtain ⟨x1,hx1,hh⟩:=bs' hh
 refine O0.intro hC Tryz.func34 rfl rfl rfl (s' rfl rfl (L0.n hC rfl (e' rfl (S' (p' 1 rfl (c' (Np hx1) rfl rfl (e' rfl (t' rfl (ci' rfl hh (fun hh=>?_) (fun hh=>?_))))))))))
 ·cases hh
  exact t' rfl (re' (rt' rfl rfl rfl))
 obtain ⟨x2,hx2,hh⟩:=bs' hh
 obtain ⟨x3,hx3,hh⟩:=bs' hh
 cases hh
 exact sk' (s' rfl rfl (L0.newB 5 rfl rfl rfl J1m rfl rfl (e' rfl (p' 2 rfl (g' [1,2] (T2 hx2) rfl rfl rfl rfl rfl rfl (n' (p' 1 rfl (g' [1,2] (Pm hx3) rfl rfl rfl rfl rfl rfl (e' rfl (re' (rt' rfl rfl rfl)))))))))))
def Tf (k:Int):Option (Bool×Bool):=
 some ((bif (decide (k≥0)) then (decide (k≤6)) else false),(bif (k == 5) then true else (k == 6)))
theorem U13 {k res}(hh:Tf k=some res):O0 C 227 [.d (.int .i64 k)] [] (Ret [] (.tup [.d (.bool res.1),.d (.bool res.2)])):=by
 unfold Tf at hh
 cases hh
 exact O0.intro hC Tryz.func227 rfl rfl rfl (t' rfl (sg' 14 rfl (G' 4 rfl (a1' rfl (pa' rfl (G' 4 rfl (a1' rfl (po' rfl (G' 2 rfl (an' (n' (re' (rt' rfl rfl rfl)))))))))))))
def U1 (s1:List Str)(s2:List Str)(v13:Int):Option Bool:=
 if (decide (v13 < ((s1).length:Int)))=true then
  idx s1 v13>>=fun x1=>
  idx s2 v13>>=fun x2=>
  if (!(x1 == x2))=true then
   some false
  else
   U1 s1 s2 (IntKind.i64.wrap (v13+1))
 else
  some true
 partial_fixpoint
abbrev Rh (s1:List Str)(s2:List Str)(v13:Int)(res:Bool):Prop:=LM C 26 0 Tryz.f263 [1,1,0,1,4] [(0,.d (.sl (estr.rows s1))),(1,.d (.sl (estr.rows s2))),(12,.d (.int .i64 ((s1).length:Int))),(13,.d (.int .i64 v13))] [] (Ret [] (.d (.bool res)))
theorem Qm (s1:List Str)(s2:List Str):(∀ v13 res,U1 s1 s2 v13=some res→Rh s1 s2 v13 res):=by
 refine U1.partial_correctness s1 s2 _ ?_
 ·intro g0 ih0 v13 res hh
  refine D1.unroll (t' rfl (S' (ci' rfl hh (fun hh=>?_) (fun hh=>?_))))
  ·obtain ⟨x1,hx1,hh⟩:=bs' hh
   obtain ⟨x2,hx2,hh⟩:=bs' hh
   refine sk' (S' (bk' (t' rfl (S' (AEx.draw hC 9 rfl rfl rfl (O' 2 rfl (AQ.i hC rfl (T0 hx1) (estr.idx hx1) rfl (O' 3 rfl (AQ.i hC rfl (T0 hx2) (estr.idx hx2) rfl (E' rfl (n' (ci' rfl hh (fun hh=>?_) (fun hh=>?_)))))))))))))
   ·cases hh
    exact t' rfl (re' (rt' rfl rfl rfl))
   exact sk' (T' rfl (lw' (ih0 _ _ hh) rfl rfl rfl))
  cases hh
  exact ex' (t' rfl (re' (rt' rfl rfl rfl)))
theorem Jn {s1 s2 v13 res}(hh:U1 s1 s2 v13=some res):Rh s1 s2 v13 res:=(Qm s1 s2) _ _ hh
def W3 (s1:List Str)(s2:List Str):Option Bool:=
 if (((s1).length:Int) != ((s2).length:Int))=true then
  some false
 else
  U1 s1 s2 0
theorem Ip {s1 s2 res}(hh:W3 s1 s2=some res):O0 C 263 [.d (.sl (estr.rows s1)),.d (.sl (estr.rows s2))] [] (Ret [] (.d (.bool res))):=by
 unfold W3 at hh
 refine O0.intro hC Tryz.func263 rfl rfl rfl (t' rfl (S' (p' 1 rfl (qe' rfl trivial (estr.lenA _) (q' rfl (qe' rfl trivial (estr.lenA _) (e' rfl (ci' rfl hh (fun hh=>?_) (fun hh=>?_)))))))))
 ·cases hh
  exact t' rfl (re' (rt' rfl rfl rfl))
 exact sk' (S' (p' 1 rfl (qe' rfl trivial (estr.lenA _) (e' rfl (bk' (fw' (Jn hh) rfl rfl rfl))))))
mutual
def P4 (a:D0)(b:D0):Option Bool:=
 (if (bif (bif (bif (bif (a.Kind == b.Kind) then (a.Low == b.Low) else false) then (a.High == b.High) else false) then (a.Size == b.Size) else false) then (a.Name == b.Name) else false)=true then W3 a.Names b.Names else some default)>>=fun x1=>
 (if (bif (bif (bif (bif (bif (a.Kind == b.Kind) then (a.Low == b.Low) else false) then (a.High == b.High) else false) then (a.Size == b.Size) else false) then (a.Name == b.Name) else false) then x1 else false)=true then N1 a.Of b.Of else some default)>>=fun x2=>
 some (bif (bif (bif (bif (bif (bif (a.Kind == b.Kind) then (a.Low == b.Low) else false) then (a.High == b.High) else false) then (a.Size == b.Size) else false) then (a.Name == b.Name) else false) then x1 else false) then x2 else false)
 partial_fixpoint
def N1 (s1:List D0)(s2:List D0):Option Bool:=
 if (((s1).length:Int) != ((s2).length:Int))=true then
  some false
 else
  Y0 s1 s2 0
 partial_fixpoint
def Y0 (s1:List D0)(s2:List D0)(v17:Int):Option Bool:=
 if (decide (v17 < ((s1).length:Int)))=true then
  idx s1 v17>>=fun x1=>
  idx s2 v17>>=fun x2=>
  P4 x1 x2>>=fun x3=>
  if (!x3)=true then
   some false
  else
   Y0 s1 s2 (IntKind.i64.wrap (v17+1))
 else
  some true
 partial_fixpoint
end
abbrev Gr (a:D0)(b:D0)(res:Bool):Prop:=O0 C 228 [.agg (D0.cells a),.agg (D0.cells b)] [] (Ret [] (.d (.bool res)))
abbrev Af (s1:List D0)(s2:List D0)(res:Bool):Prop:=O0 C 264 [.d (.sl (D0.rows s1)),.d (.sl (D0.rows s2)),.clo 228 []] [] (Ret [] (.d (.bool res)))
abbrev Ud (s1:List D0)(s2:List D0)(v17:Int)(res:Bool):Prop:=LM C 32 0 Tryz.f264 [1,1,0,1,4] [(1,.d (.sl (D0.rows s2))),(2,.clo 228 []),(15,.d (.sl (D0.rows s1))),(16,.d (.int .i64 ((s1).length:Int))),(17,.d (.int .i64 v17))] [] (Ret [] (.d (.bool res)))
theorem B10:(∀ a b res,P4 a b=some res→Gr a b res)∧(∀ s1 s2 res,N1 s1 s2=some res→Af s1 s2 res)∧(∀ s1 s2 v17 res,Y0 s1 s2 v17=some res→Ud s1 s2 v17 res):=by
 refine P4.mutual_partial_correctness _ _ _ ?_ ?_ ?_
 ·intro g1 ih1 a b res hh
  obtain ⟨x1,hx1,hh⟩:=bs' hh
  obtain ⟨x2,hx2,hh⟩:=bs' hh
  cases hh
  refine O0.intro hC Tryz.func228 rfl rfl rfl (s' rfl rfl (L0.n hC rfl (L0.n hC rfl (e' rfl (sg' 48 rfl (G' 7 rfl (a1' rfl (a0' rfl (a1' rfl (a2' rfl (pa' rfl (G' 2 rfl (a1' rfl ?_)))))))))))))
  refine a0' rfl (a1' rfl (a2' rfl (pa' rfl (G' 2 rfl (a1' rfl (a0' rfl (a1' rfl (a2' rfl (pa' rfl (G' 2 rfl (a1' rfl (a0' rfl (a1' rfl ?_)))))))))))))
  refine a2' rfl (pa' rfl (G' 2 rfl (a1' rfl (a0' rfl (a1' rfl (AG.c rfl rfl (fun hg=>⟨hg,hg,trivial⟩) (fun hw=>Ip (W1 hw hx1)) (pa' rfl (G' 2 rfl (a1' rfl (a0' rfl (a1' rfl (AG.c rfl rfl (fun hg=>⟨hg,hg,trivial⟩) (fun hw=>ih1 _ _ _ (W1 hw hx2)) (pa' rfl ?_)))))))))))))
  exact a0' rfl (an' (n' (re' (rt' rfl rfl rfl))))
 ·intro g2 ih2 s1 s2 res hh
  refine O0.intro hC Tryz.func264 rfl rfl rfl (t' rfl (S' (p' 1 rfl (qe' rfl trivial (D0.lenA _) (q' rfl (qe' rfl trivial (D0.lenA _) (e' rfl (ci' rfl hh (fun hh=>?_) (fun hh=>?_)))))))))
  ·cases hh
   exact t' rfl (re' (rt' rfl rfl rfl))
  exact sk' (S' (p' 1 rfl (qe' rfl trivial (D0.lenA _) (e' rfl (bk' (fw' (ih2 _ _ _ _ hh) rfl rfl rfl))))))
 ·intro g0 g2 ih0 ih2 s1 s2 v17 res hh
  refine D1.unroll (t' rfl (S' (ci' rfl hh (fun hh=>?_) (fun hh=>?_))))
  ·obtain ⟨x1,hx1,hh⟩:=bs' hh
   obtain ⟨x2,hx2,hh⟩:=bs' hh
   obtain ⟨x3,hx3,hh⟩:=bs' hh
   refine sk' (S' (bk' (p' 1 rfl (i' rfl (T0 hx1) (D0.idx hx1) rfl (q' rfl (L0.nf hC rfl (q' rfl (L0.s hC rfl (n' (p' 2 rfl (i' rfl (T0 hx2) (D0.idx hx2) rfl (q' rfl (L0.nf hC rfl ?_)))))))))))))
   refine L0.s hC rfl (n' (p' 3 rfl (c' (ih0 _ _ _ hx3) rfl rfl (e' rfl (ci' rfl hh (fun hh=>?_) (fun hh=>?_))))))
   ·cases hh
    exact t' rfl (re' (rt' rfl rfl rfl))
   exact sk' (T' rfl (lw' (ih2 _ _ _ _ hh) rfl rfl rfl))
  cases hh
  exact ex' (t' rfl (re' (rt' rfl rfl rfl)))
theorem Z11 {a b res}(hh:P4 a b=some res):Gr a b res:=(B10).1 _ _ _ hh
end Go.Proofs.YtbmlpamppbcdeaaGreatDoor

set_option maxRecDepth 100000
set_option maxHeartbeats 4000000
set_option synthInstance.maxSize 20000
set_option linter.unusedVariables false
namespace Go.Proofs.YtbmlpamppbcdeaaGreatDoor
open Go.Am
mutual
def G3 (t:D0)(depth:Int)(syntaxReport:J0):Option J0:=
 B5 depth (J0.mk (IntKind.i64.wrap (syntaxReport.nodes+1)) syntaxReport.depth syntaxReport.badForm syntaxReport.badName syntaxReport.badNumber)>>=fun x1=>
 S0 (bif (decide (t.Kind≥0)) then (decide (t.Kind≤4)) else false) x1>>=fun x2=>
 S0 (bif (t.Kind == 1) then true else (bif (t.Low == 0) then (t.High == 0) else false)) x2>>=fun x3=>
 S0 (bif (t.Kind == 2) then true else (t.Size == 0)) x3>>=fun x4=>
 S0 (bif (t.Kind == 4) then true else (t.Name == [])) x4>>=fun x5=>
 S0 (bif (t.Kind == 3) then true else (((t.Names).length:Int) == 0)) x5>>=fun x6=>
 if (t.Kind == 2)=true then
  S0 (((t.Of).length:Int) == 1) x6>>=fun x7=>
  S2 t.Size 1 32>>=fun x8=>
  Q1 x8 x7>>=fun x9=>
  D5 t depth x9
 else
  if (t.Kind == 3)=true then
   S0 (bif (decide (((t.Of).length:Int)≥1)) then (((t.Of).length:Int) == ((t.Names).length:Int)) else false) x6>>=fun x14=>
   Q1 (decide (((t.Of).length:Int)≤32)) x14>>=fun x15=>
   D5 t depth x15
  else
   S0 (((t.Of).length:Int) == 0) x6>>=fun x16=>
   D5 t depth x16
 partial_fixpoint
def D5 (t:D0)(depth:Int)(o0:J0):Option J0:=
 if (t.Kind == 1)=true then
  S2 t.Low (-1048576) 1048576>>=fun x10=>
  (if x10=true then S2 t.High t.Low 1048576 else some default)>>=fun x11=>
  Q1 (bif x10 then x11 else false) o0>>=fun x12=>
  F5 t depth x12
 else
  F5 t depth o0
 partial_fixpoint
def F5 (t:D0)(depth:Int)(o01:J0):Option J0:=
 if (t.Kind == 4)=true then
  X2 t.Name o01>>=fun x13=>
  R6 t depth x13
 else
  R6 t depth o01
 partial_fixpoint
def R6 (t:D0)(depth:Int)(o02:J0):Option J0:=
 I3 t depth o02 0
 partial_fixpoint
def I3 (t:D0)(depth:Int)(o03:J0)(v147:Int):Option J0:=
 if (decide (v147 < ((t.Names).length:Int)))=true then
  idx t.Names v147>>=fun x17=>
  X2 x17 o03>>=fun x18=>
  I3 t depth x18 (IntKind.i64.wrap (v147+1))
 else
  A4 t depth o03 0
 partial_fixpoint
def A4 (t:D0)(depth:Int)(o04:J0)(v158:Int):Option J0:=
 if (decide (v158 < ((t.Of).length:Int)))=true then
  idx t.Of v158>>=fun x19=>
  G3 x19 (IntKind.i64.wrap (depth+1)) o04>>=fun x20=>
  A4 t depth x20 (IntKind.i64.wrap (v158+1))
 else
  some o04
 partial_fixpoint
end
abbrev Pp (t:D0)(depth:Int)(syntaxReport:J0)(res:J0):Prop:=O0 C 129 [.ref 0 0,.agg (D0.cells t),.d (.int .i64 depth)] [.row (J0.cells syntaxReport) 142] (Ret [.row (J0.cells res) 142] (.tup []))
abbrev Qx (t:D0)(depth:Int)(o0:J0)(res:J0):Prop:=JM C 168 1 Tryz.f129 [1,1,1,1,1,1,1,1,1,1] [(0,.ref 0 0),(2,.d (.int .i64 depth)),(4,.ref 1 0),(6,.d (.bool (t.Kind == 1))),(9,.d (.bool (t.Kind == 4)))] [.row (J0.cells o0) 142,.row (D0.cells t) 48] (Ret [.row (J0.cells res) 142] (.tup []))
abbrev Rx (t:D0)(depth:Int)(o01:J0)(res:J0):Prop:=JM C 168 1 Tryz.f129 [1,1,1,1,1,1,1,1,1,1,1] [(0,.ref 0 0),(2,.d (.int .i64 depth)),(4,.ref 1 0),(9,.d (.bool (t.Kind == 4)))] [.row (J0.cells o01) 142,.row (D0.cells t) 48] (Ret [.row (J0.cells res) 142] (.tup []))
abbrev Sx (t:D0)(depth:Int)(o02:J0)(res:J0):Prop:=JM C 168 1 Tryz.f129 [1,1,1,1,1,1,1,1,1,1,1,1] [(0,.ref 0 0),(2,.d (.int .i64 depth)),(4,.ref 1 0)] [.row (J0.cells o02) 142,.row (D0.cells t) 48] (Ret [.row (J0.cells res) 142] (.tup []))
abbrev Tx (t:D0)(depth:Int)(o03:J0)(v147:Int)(res:J0):Prop:=LM C 168 1 Tryz.f129 [1,1,1,1,1,1,1,1,1,1,1,1,0,1,4] [(0,.ref 0 0),(2,.d (.int .i64 depth)),(4,.ref 1 0),(145,.d (.sl (estr.rows t.Names))),(146,.d (.int .i64 ((t.Names).length:Int))),(147,.d (.int .i64 v147))] [.row (J0.cells o03) 142,.row (D0.cells t) 48] (Ret [.row (J0.cells res) 142] (.tup []))
abbrev Ux (t:D0)(depth:Int)(o04:J0)(v158:Int)(res:J0):Prop:=LM C 168 1 Tryz.f129 [1,1,1,1,1,1,1,1,1,1,1,1,1,1,4] [(0,.ref 0 0),(2,.d (.int .i64 depth)),(156,.d (.sl (D0.rows t.Of))),(157,.d (.int .i64 ((t.Of).length:Int))),(158,.d (.int .i64 v158))] [.row (J0.cells o04) 142] (Ret [.row (J0.cells res) 142] (.tup []))
theorem Xy:(∀ t depth syntaxReport res,G3 t depth syntaxReport=some res→Pp t depth syntaxReport res)∧(∀ t depth o0 res,D5 t depth o0=some res→Qx t depth o0 res)∧(∀ t depth o01 res,F5 t depth o01=some res→Rx t depth o01 res)∧(∀ t depth o02 res,R6 t depth o02=some res→Sx t depth o02 res)∧(∀ t depth o03 v147 res,I3 t depth o03 v147=some res→Tx t depth o03 v147 res)∧(∀ t depth o04 v158 res,A4 t depth o04 v158=some res→Ux t depth o04 v158 res):=by
 refine G3.mutual_partial_correctness _ _ _ _ _ _ ?_ ?_ ?_ ?_ ?_ ?_
 ·intro g1 ih1 t depth syntaxReport res hh
  obtain ⟨x1,hx1,hh⟩:=bs' hh
  obtain ⟨x2,hx2,hh⟩:=bs' hh
  obtain ⟨x3,hx3,hh⟩:=bs' hh
  obtain ⟨x4,hx4,hh⟩:=bs' hh
  obtain ⟨x5,hx5,hh⟩:=bs' hh
  obtain ⟨x6,hx6,hh⟩:=bs' hh
  refine O0.intro hC Tryz.func129 rfl rfl rfl (s' rfl rfl (L0.n hC rfl (n' (p' 7 rfl (L0.s hC rfl (n' (p' 2 rfl (g' [0] (Ij hx1) rfl rfl rfl rfl rfl rfl (n' (sg' 9 rfl (G' 6 rfl (a1' rfl (a1' rfl ?_)))))))))))))
  refine pa' rfl (an' (g' [0] (W0 hx2) rfl rfl rfl rfl rfl rfl (n' (S' (AEx.draw hC 16 rfl rfl rfl (E' rfl (n' (sg' 12 rfl (G' 4 rfl (a1' rfl (a1' rfl (a1' rfl (a0' rfl ?_)))))))))))))
  refine a1' rfl (a1' rfl (pA' rfl (po' rfl (an' (g' [0] (W0 hx3) rfl rfl rfl rfl rfl rfl (n' (sg' 7 rfl (G' 4 rfl (a1' rfl (a1' rfl (po' rfl (an' (g' [0] (W0 hx4) rfl rfl rfl rfl rfl rfl ?_)))))))))))))
  refine n' (sg' 7 rfl (G' 4 rfl (a1' rfl (a1' rfl (po' rfl (an' (g' [0] (W0 hx5) rfl rfl rfl rfl rfl rfl (n' (sg' 8 rfl (G' 4 rfl (a1' rfl (AG.qe hC rfl (fun hg=>⟨⟨hg,trivial⟩,trivial⟩) (estr.lenA _) (a1' rfl ?_)))))))))))))
  refine po' rfl (an' (g' [0] (W0 hx6) rfl rfl rfl rfl rfl rfl (n' (S' (bk' (t' rfl (ci' rfl hh (fun hh=>?_) (fun hh=>?_))))))))
  ·obtain ⟨x7,hx7,hh⟩:=bs' hh
   obtain ⟨x8,hx8,hh⟩:=bs' hh
   obtain ⟨x9,hx9,hh⟩:=bs' hh
   exact p' 3 rfl (qe' rfl trivial (D0.lenA _) (q' rfl (g' [0] (W0 hx7) rfl rfl rfl rfl rfl rfl (n' (P' 3 rfl (c' (U3 hx8) rfl rfl (g' [0] (R2 hx9) rfl rfl rfl rfl rfl rfl (n' (ew' (ih1 _ _ _ _ hh) rfl rfl rfl)))))))))
  refine t' rfl (ci' rfl hh (fun hh=>?_) (fun hh=>?_))
  ·obtain ⟨x14,hx14,hh⟩:=bs' hh
   obtain ⟨x15,hx15,hh⟩:=bs' hh
   refine sg' 14 rfl (G' 3 rfl (AG.qe hC rfl (fun hg=>⟨trivial,trivial⟩) (D0.lenA _) (G' 3 rfl (a1' rfl (AG.qe hC rfl (fun hg=>⟨⟨hg,trivial⟩,trivial⟩) (D0.lenA _) (a0' rfl (a1' rfl (AG.qe hC rfl (fun hg=>⟨⟨hg,trivial⟩,trivial⟩) (estr.lenA _) (a2' rfl (pa' rfl (an' (g' [0] (W0 hx14) rfl rfl rfl rfl rfl rfl (n' ?_)))))))))))))
   exact P' 3 rfl (qe' rfl trivial (D0.lenA _) (q' rfl (g' [0] (R2 hx15) rfl rfl rfl rfl rfl rfl (n' (ew' (ih1 _ _ _ _ hh) rfl rfl rfl)))))
  obtain ⟨x16,hx16,hh⟩:=bs' hh
  exact P' 3 rfl (qe' rfl trivial (D0.lenA _) (q' rfl (g' [0] (W0 hx16) rfl rfl rfl rfl rfl rfl (n' (ew' (ih1 _ _ _ _ hh) rfl rfl rfl)))))
 ·intro g2 ih2 t depth o0 res hh
  refine S' (t' rfl (ci' rfl hh (fun hh=>?_) (fun hh=>?_)))
  ·obtain ⟨x10,hx10,hh⟩:=bs' hh
   obtain ⟨x11,hx11,hh⟩:=bs' hh
   obtain ⟨x12,hx12,hh⟩:=bs' hh
   exact AEx.regionG 11 rfl (G' 3 rfl (AG.c rfl rfl (fun _=>trivial) (fun _=>U3 hx10) (G' 2 rfl (a1' rfl (a0' rfl (a1' rfl (AG.c rfl rfl (fun hg=>⟨hg,hg,trivial⟩) (fun hw=>U3 (W1 hw hx11)) (pa' rfl (an' (g' [0] (R2 hx12) rfl rfl rfl rfl rfl rfl (n' (ew' (ih2 _ _ _ _ hh) rfl rfl rfl))))))))))))
  exact sk' (ew' (ih2 _ _ _ _ hh) rfl rfl rfl)
 ·intro g3 ih3 t depth o01 res hh
  refine S' (t' rfl (ci' rfl hh (fun hh=>?_) (fun hh=>?_)))
  ·obtain ⟨x13,hx13,hh⟩:=bs' hh
   exact P' 3 rfl (g' [0] (Ka hx13) rfl rfl rfl rfl rfl rfl (n' (ew' (ih3 _ _ _ _ hh) rfl rfl rfl)))
  exact sk' (ew' (ih3 _ _ _ _ hh) rfl rfl rfl)
 ·intro g4 ih4 t depth o02 res hh
  exact S' (p' 2 rfl (qe' rfl trivial (estr.lenA _) (e' rfl (bk' (fw' (ih4 _ _ _ _ _ hh) rfl rfl rfl)))))
 ·intro g4 g5 ih4 ih5 t depth o03 v147 res hh
  refine D1.unroll (t' rfl (S' (ci' rfl hh (fun hh=>?_) (fun hh=>?_))))
  ·obtain ⟨x17,hx17,hh⟩:=bs' hh
   obtain ⟨x18,hx18,hh⟩:=bs' hh
   exact sk' (S' (bk' (s' rfl rfl (i' rfl (T0 hx17) (estr.idx hx17) rfl (e' rfl (P' 2 rfl (g' [0] (Ka hx18) rfl rfl rfl rfl rfl rfl (n' (T' rfl (lw' (ih4 _ _ _ _ _ hh) rfl rfl rfl))))))))))
  exact ex' (p' 2 rfl (qe' rfl trivial (D0.lenA _) (e' rfl (bk' (fw' (ih5 _ _ _ _ _ hh) rfl rfl rfl)))))
 ·intro g0 g5 ih0 ih5 t depth o04 v158 res hh
  refine D1.unroll (t' rfl (S' (ci' rfl hh (fun hh=>?_) (fun hh=>?_))))
  ·obtain ⟨x19,hx19,hh⟩:=bs' hh
   obtain ⟨x20,hx20,hh⟩:=bs' hh
   exact sk' (S' (bk' (s' rfl rfl (i' rfl (T0 hx19) (D0.idx hx19) rfl (q' rfl (L0.nf hC rfl (L0.s hC rfl (n' (P' 4 rfl (g' [0] (ih0 _ _ _ _ hx20) rfl rfl rfl rfl rfl rfl (n' (T' rfl (lw' (ih5 _ _ _ _ _ hh) rfl rfl rfl)))))))))))))
  cases hh
  exact ex' (rn' rfl rfl rfl)
theorem C10 {t depth syntaxReport res}(hh:G3 t depth syntaxReport=some res):Pp t depth syntaxReport res:=(Xy).1 _ _ _ _ hh
mutual
def X3 (a:A0)(b:A0):Option Bool:=
 (if (bif (bif (a.Op == b.Op) then (a.NV == b.NV) else false) then (a.Name == b.Name) else false)=true then P1 a.Kids b.Kids else some default)>>=fun x1=>
 some (bif (bif (bif (a.Op == b.Op) then (a.NV == b.NV) else false) then (a.Name == b.Name) else false) then x1 else false)
 partial_fixpoint
def P1 (s1:List A0)(s2:List A0):Option Bool:=
 if (((s1).length:Int) != ((s2).length:Int))=true then
  some false
 else
  Z0 s1 s2 0
 partial_fixpoint
def Z0 (s1:List A0)(s2:List A0)(v17:Int):Option Bool:=
 if (decide (v17 < ((s1).length:Int)))=true then
  idx s1 v17>>=fun x1=>
  idx s2 v17>>=fun x2=>
  X3 x1 x2>>=fun x3=>
  if (!x3)=true then
   some false
  else
   Z0 s1 s2 (IntKind.i64.wrap (v17+1))
 else
  some true
 partial_fixpoint
end
abbrev Hr (a:A0)(b:A0)(res:Bool):Prop:=O0 C 265 [.agg (A0.cells a),.agg (A0.cells b)] [] (Ret [] (.d (.bool res)))
abbrev Cf (s1:List A0)(s2:List A0)(res:Bool):Prop:=O0 C 286 [.d (.sl (A0.rows s1)),.d (.sl (A0.rows s2)),.clo 265 []] [] (Ret [] (.d (.bool res)))
abbrev Wd (s1:List A0)(s2:List A0)(v17:Int)(res:Bool):Prop:=LM C 32 0 Tryz.f286 [1,1,0,1,4] [(1,.d (.sl (A0.rows s2))),(2,.clo 265 []),(15,.d (.sl (A0.rows s1))),(16,.d (.int .i64 ((s1).length:Int))),(17,.d (.int .i64 v17))] [] (Ret [] (.d (.bool res)))
theorem D10:(∀ a b res,X3 a b=some res→Hr a b res)∧(∀ s1 s2 res,P1 s1 s2=some res→Cf s1 s2 res)∧(∀ s1 s2 v17 res,Z0 s1 s2 v17=some res→Wd s1 s2 v17 res):=by
 refine X3.mutual_partial_correctness _ _ _ ?_ ?_ ?_
 ·intro g1 ih1 a b res hh
  obtain ⟨x1,hx1,hh⟩:=bs' hh
  cases hh
  refine O0.intro hC Tryz.func265 rfl rfl rfl (s' rfl rfl (L0.n hC rfl (L0.n hC rfl (e' rfl (sg' 27 rfl (G' 7 rfl (a1' rfl (a0' rfl (a1' rfl (a2' rfl (pa' rfl (G' 2 rfl (a1' rfl ?_)))))))))))))
  exact a0' rfl (a1' rfl (a2' rfl (pa' rfl (G' 2 rfl (a1' rfl (a0' rfl (a1' rfl (AG.c rfl rfl (fun hg=>⟨hg,hg,trivial⟩) (fun hw=>ih1 _ _ _ (W1 hw hx1)) (pa' rfl (a0' rfl (an' (n' (re' (rt' rfl rfl rfl))))))))))))))
 ·intro g2 ih2 s1 s2 res hh
  refine O0.intro hC Tryz.func286 rfl rfl rfl (t' rfl (S' (p' 1 rfl (qe' rfl trivial (A0.lenA _) (q' rfl (qe' rfl trivial (A0.lenA _) (e' rfl (ci' rfl hh (fun hh=>?_) (fun hh=>?_)))))))))
  ·cases hh
   exact t' rfl (re' (rt' rfl rfl rfl))
  exact sk' (S' (p' 1 rfl (qe' rfl trivial (A0.lenA _) (e' rfl (bk' (fw' (ih2 _ _ _ _ hh) rfl rfl rfl))))))
 ·intro g0 g2 ih0 ih2 s1 s2 v17 res hh
  refine D1.unroll (t' rfl (S' (ci' rfl hh (fun hh=>?_) (fun hh=>?_))))
  ·obtain ⟨x1,hx1,hh⟩:=bs' hh
   obtain ⟨x2,hx2,hh⟩:=bs' hh
   obtain ⟨x3,hx3,hh⟩:=bs' hh
   refine sk' (S' (bk' (p' 1 rfl (i' rfl (T0 hx1) (A0.idx hx1) rfl (q' rfl (L0.nf hC rfl (q' rfl (L0.s hC rfl (n' (p' 2 rfl (i' rfl (T0 hx2) (A0.idx hx2) rfl (q' rfl (L0.nf hC rfl ?_)))))))))))))
   refine L0.s hC rfl (n' (p' 3 rfl (c' (ih0 _ _ _ hx3) rfl rfl (e' rfl (ci' rfl hh (fun hh=>?_) (fun hh=>?_))))))
   ·cases hh
    exact t' rfl (re' (rt' rfl rfl rfl))
   exact sk' (T' rfl (lw' (ih2 _ _ _ _ hh) rfl rfl rfl))
  cases hh
  exact ex' (t' rfl (re' (rt' rfl rfl rfl)))
theorem A12 {a b res}(hh:X3 a b=some res):Hr a b res:=(D10).1 _ _ _ hh
def P2 (e:A0)(used:Bool)(syntaxReport:J0):Option J0:=
 (if (!used)=true then X3 e (A0.mk 0 0 [] []) else some default)>>=fun x1=>
 if (bif (!used) then x1 else false)=true then
  some syntaxReport
 else
  S0 used syntaxReport>>=fun x2=>
  C2 e 1 x2>>=fun x3=>
  some x3
theorem Xg {e used syntaxReport res}(hh:P2 e used syntaxReport=some res):O0 C 229 [.ref 0 0,.agg (A0.cells e),.d (.bool used)] [.row (J0.cells syntaxReport) 142] (Ret [.row (J0.cells res) 142] (.tup [])):=by
 unfold P2 at hh
 obtain ⟨x1,hx1,hh⟩:=bs' hh
 refine O0.intro hC Tryz.func229 rfl rfl rfl (s' rfl rfl (L0.n hC rfl (n' (S' (sg' 7 rfl (G' 5 rfl (AG.c rfl rfl (fun hg=>⟨hg,hg,trivial⟩) (fun hw=>A12 (W1 hw hx1)) (pa' rfl (an' (n' (ci' rfl hh (fun hh=>?_) (fun hh=>?_))))))))))))
 ·cases hh
  exact re' (rt' rfl rfl rfl)
 obtain ⟨x2,hx2,hh⟩:=bs' hh
 obtain ⟨x3,hx3,hh⟩:=bs' hh
 cases hh
 exact sk' (p' 2 rfl (g' [0] (W0 hx2) rfl rfl rfl rfl rfl rfl (n' (P' 2 rfl (g' [0] (Lj hx3) rfl rfl rfl rfl rfl rfl (n' (rn' rfl rfl rfl)))))))
def B8 (v:Int):Option (G1×Bool):=
 if (v == 0)=true then
  some ((G1.mk true true false false false false false false false),true)
 else
  if (v == 1)=true then
   some ((G1.mk true false true true false false false false false),true)
  else
   if (v == 2)=true then
    some ((G1.mk true false true false false false false false false),true)
   else
    if (v == 3)=true then
     some ((G1.mk false true false false false false false false false),true)
    else
     if (v == 4)=true then
      some ((G1.mk false false false false true false false false false),true)
     else
      if (v == 5)=true then
       some ((G1.mk false true false false false false false true true),true)
      else
       if (v == 6)=true then
        some ((G1.mk false true false false true false false true false),true)
       else
        if (v == 7)=true then
         some ((G1.mk false false true false false true false true false),true)
        else
         if (v == 8)=true then
          some ((G1.mk false false false false false false true false false),true)
         else
          some ((G1.mk false false false false false false false false false),false)
theorem Qp {v res}(hh:B8 v=some res):O0 C 108 [.d (.int .i64 v)] [] (Ret [] (.tup [.agg (G1.cells res.1),.d (.bool res.2)])):=by
 unfold B8 at hh
 refine O0.intro hC Tryz.func108 rfl rfl rfl (s' rfl rfl (L0.n hC rfl (e' rfl (S' (t' rfl (bk' (t' rfl (ci' rfl hh (fun hh=>?_) (fun hh=>?_)))))))))
 ·cases hh
  exact p' 1 rfl (L0.s hC rfl (e' rfl (re' (rt' rfl rfl rfl))))
 refine t' rfl (ci' rfl hh (fun hh=>?_) (fun hh=>?_))
 ·cases hh
  exact p' 1 rfl (L0.s hC rfl (e' rfl (re' (rt' rfl rfl rfl))))
 refine t' rfl (ci' rfl hh (fun hh=>?_) (fun hh=>?_))
 ·cases hh
  exact p' 1 rfl (L0.s hC rfl (e' rfl (re' (rt' rfl rfl rfl))))
 refine t' rfl (ci' rfl hh (fun hh=>?_) (fun hh=>?_))
 ·cases hh
  exact p' 1 rfl (L0.s hC rfl (e' rfl (re' (rt' rfl rfl rfl))))
 refine t' rfl (ci' rfl hh (fun hh=>?_) (fun hh=>?_))
 ·cases hh
  exact p' 1 rfl (L0.s hC rfl (e' rfl (re' (rt' rfl rfl rfl))))
 refine t' rfl (ci' rfl hh (fun hh=>?_) (fun hh=>?_))
 ·cases hh
  exact p' 1 rfl (L0.s hC rfl (e' rfl (re' (rt' rfl rfl rfl))))
 refine t' rfl (ci' rfl hh (fun hh=>?_) (fun hh=>?_))
 ·cases hh
  exact p' 1 rfl (L0.s hC rfl (e' rfl (re' (rt' rfl rfl rfl))))
 refine t' rfl (ci' rfl hh (fun hh=>?_) (fun hh=>?_))
 ·cases hh
  exact p' 1 rfl (L0.s hC rfl (e' rfl (re' (rt' rfl rfl rfl))))
 refine t' rfl (ci' rfl hh (fun hh=>?_) (fun hh=>?_))
 ·cases hh
  exact p' 1 rfl (L0.s hC rfl (e' rfl (re' (rt' rfl rfl rfl))))
 cases hh
 exact sk' (p' 1 rfl (L0.s hC rfl (e' rfl (re' (rt' rfl rfl rfl)))))
def D2 (s:C0)(o0:J0)(last:Int)(v58:Int):Option J0:=
 if (decide (v58 < ((s.Numbers).length:Int)))=true then
  idx s.Numbers v58>>=fun x10=>
  S2 x10 0 1048576>>=fun x11=>
  Q1 (bif x11 then (decide (x10 > last)) else false) o0>>=fun x12=>
  D2 s x12 x10 (IntKind.i64.wrap (v58+1))
 else
  some o0
 partial_fixpoint
abbrev Rk (s:C0)(o0:J0)(last:Int)(v58:Int)(res:J0):Prop:=LM C 73 1 Tryz.f230 [1,1,4,1,3,1,3,1,3,1,2,1,1,1,4] [(0,.ref 0 0),(5,.d (.int .i64 last)),(56,.d (.sl (ei64.rows s.Numbers))),(57,.d (.int .i64 ((s.Numbers).length:Int))),(58,.d (.int .i64 v58))] [.row (J0.cells o0) 142] (Ret [.row (J0.cells res) 142] (.tup []))
theorem Gq (s:C0):(∀ o0 last v58 res,D2 s o0 last v58=some res→Rk s o0 last v58 res):=by
 refine D2.partial_correctness s _ ?_
 ·intro g0 ih0 o0 last v58 res hh
  refine D1.unroll (t' rfl (S' (ci' rfl hh (fun hh=>?_) (fun hh=>?_))))
  ·obtain ⟨x10,hx10,hh⟩:=bs' hh
   obtain ⟨x11,hx11,hh⟩:=bs' hh
   obtain ⟨x12,hx12,hh⟩:=bs' hh
   refine sk' (S' (bk' (s' rfl rfl (i' rfl (T0 hx10) (ei64.idx hx10) rfl (e' rfl (sg' 8 rfl (G' 2 rfl (AG.c rfl rfl (fun _=>trivial) (fun _=>U3 hx11) (G' 3 rfl (a2' rfl (pa' rfl (an' (g' [0] (R2 hx12) rfl rfl rfl rfl rfl rfl ?_)))))))))))))
   exact n' (T' rfl (T' rfl (lw' (ih0 _ _ _ _ hh) rfl rfl rfl)))
  cases hh
  exact ex' (rn' rfl rfl rfl)
theorem Ir {s o0 last v58 res}(hh:D2 s o0 last v58=some res):Rk s o0 last v58 res:=(Gq s) _ _ _ _ hh
def S4 (s:C0)(syntaxReport:J0):Option J0:=
 if (s.Verb == 4)=true then
  S2 s.NV 0 1048576>>=fun x1=>
  Q1 x1 syntaxReport>>=fun x2=>
  some x2
 else
  if (s.Verb == 6)=true then
   S2 s.NV 0 4096>>=fun x3=>
   Q1 x3 syntaxReport>>=fun x4=>
   some x4
  else
   if (s.Verb == 7)=true then
    S2 s.Low (-1048576) 1048576>>=fun x5=>
    (if x5=true then S2 s.High s.Low 1048576 else some default)>>=fun x6=>
    Q1 (bif (bif x5 then x6 else false) then (decide ((IntKind.i64.wrap (s.High - s.Low)) < 4096)) else false) syntaxReport>>=fun x7=>
    some x7
   else
    if (s.Verb == 8)=true then
     S2 ((s.Numbers).length:Int) 1 32>>=fun x8=>
     Q1 x8 syntaxReport>>=fun x9=>
     D2 s x9 (-1) 0
    else
     some syntaxReport
theorem Su {s syntaxReport res}(hh:S4 s syntaxReport=some res):O0 C 230 [.ref 0 0,.agg (C0.cells s)] [.row (J0.cells syntaxReport) 142] (Ret [.row (J0.cells res) 142] (.tup [])):=by
 unfold S4 at hh
 refine O0.intro hC Tryz.func230 rfl rfl rfl (s' rfl rfl (L0.n hC rfl (n' (t' rfl (bk' (t' rfl (ci' rfl hh (fun hh=>?_) (fun hh=>?_))))))))
 ·obtain ⟨x1,hx1,hh⟩:=bs' hh
  obtain ⟨x2,hx2,hh⟩:=bs' hh
  cases hh
  exact P' 3 rfl (c' (U3 hx1) rfl rfl (g' [0] (R2 hx2) rfl rfl rfl rfl rfl rfl (n' (rn' rfl rfl rfl))))
 refine t' rfl (ci' rfl hh (fun hh=>?_) (fun hh=>?_))
 ·obtain ⟨x3,hx3,hh⟩:=bs' hh
  obtain ⟨x4,hx4,hh⟩:=bs' hh
  cases hh
  exact P' 3 rfl (c' (U3 hx3) rfl rfl (g' [0] (R2 hx4) rfl rfl rfl rfl rfl rfl (n' (rn' rfl rfl rfl))))
 refine t' rfl (ci' rfl hh (fun hh=>?_) (fun hh=>?_))
 ·obtain ⟨x5,hx5,hh⟩:=bs' hh
  obtain ⟨x6,hx6,hh⟩:=bs' hh
  obtain ⟨x7,hx7,hh⟩:=bs' hh
  cases hh
  refine sg' 11 rfl (G' 2 rfl (AG.c rfl rfl (fun _=>trivial) (fun _=>U3 hx5) (G' 2 rfl (a1' rfl (a0' rfl (a1' rfl (AG.c rfl rfl (fun hg=>⟨hg,hg,trivial⟩) (fun hw=>U3 (W1 hw hx6)) (pa' rfl (a0' rfl (an' (n' (AEx.regionG 10 rfl (G' 4 rfl ?_)))))))))))))
  exact a1' rfl (a0' rfl (a1' rfl (a2' rfl (a1' rfl (pa' rfl (an' (g' [0] (R2 hx7) rfl rfl rfl rfl rfl rfl (n' (rn' rfl rfl rfl)))))))))
 refine t' rfl (ci' rfl hh (fun hh=>?_) (fun hh=>?_))
 ·obtain ⟨x8,hx8,hh⟩:=bs' hh
  obtain ⟨x9,hx9,hh⟩:=bs' hh
  exact p' 3 rfl (qe' rfl trivial (ei64.lenA _) (c' (U3 hx8) rfl rfl (g' [0] (R2 hx9) rfl rfl rfl rfl rfl rfl (n' (t' rfl (p' 2 rfl (qe' rfl trivial (ei64.lenA _) (e' rfl (bk' (fw' (Ir hh) rfl rfl rfl))))))))))
 cases hh
 exact sk' (rn' rfl rfl rfl)
mutual
def F2 (l:List C0)(nesting:Int)(syntaxReport:J0):Option J0:=
 J3 l nesting syntaxReport 0
 partial_fixpoint
def J3 (l:List C0)(nesting:Int)(o03:J0)(v14:Int):Option J0:=
 if (decide (v14 < ((l).length:Int)))=true then
  idx l v14>>=fun x1=>
  B5 nesting (J0.mk (IntKind.i64.wrap (o03.nodes+1)) o03.depth o03.badForm o03.badName o03.badNumber)>>=fun x2=>
  B8 x1.Verb>>=fun x3=>
  S0 x3.2 x2>>=fun x4=>
  P2 x1.Place x3.1.place x4>>=fun x5=>
  if x3.1.place=true then
   Ze x1.Place>>=fun x6=>
   S0 x6 x5>>=fun x7=>
   F4 l nesting x7 x1 x3 v14
  else
   F4 l nesting x5 x1 x3 v14
 else
  some o03
 partial_fixpoint
def F4 (l:List C0)(nesting:Int)(o0:J0)(x1:C0)(x3:G1×Bool)(v141:Int):Option J0:=
 P2 x1.Value x3.1.value o0>>=fun x8=>
 S0 (bif x3.1.name then true else (x1.Name == [])) x8>>=fun x9=>
 if x3.1.name=true then
  X2 x1.Name x9>>=fun x10=>
  G4 l nesting x10 x1 x3 v141
 else
  G4 l nesting x9 x1 x3 v141
 partial_fixpoint
def G4 (l:List C0)(nesting:Int)(o01:J0)(x1:C0)(x3:G1×Bool)(v142:Int):Option J0:=
 S0 (bif x3.1.args then true else (((x1.Args).length:Int) == 0)) o01>>=fun x11=>
 N5 l nesting x11 x1 x3 v142 0
 partial_fixpoint
def N5 (l:List C0)(nesting:Int)(o02:J0)(x1:C0)(x3:G1×Bool)(v143:Int)(v84:Int):Option J0:=
 if (decide (v84 < ((x1.Args).length:Int)))=true then
  idx x1.Args v84>>=fun x12=>
  C2 x12 1 o02>>=fun x13=>
  N5 l nesting x13 x1 x3 v143 (IntKind.i64.wrap (v84+1))
 else
  S0 (bif x3.1.n then true else (x1.NV == 0)) o02>>=fun x14=>
  S0 (bif x3.1.bounds then true else (bif (x1.Low == 0) then (x1.High == 0) else false)) x14>>=fun x15=>
  S0 (bif x3.1.numbers then true else (((x1.Numbers).length:Int) == 0)) x15>>=fun x16=>
  S0 (bif x3.1.thenV then true else (((x1.Then).length:Int) == 0)) x16>>=fun x17=>
  S0 (bif x3.1.other then true else (((x1.Else).length:Int) == 0)) x17>>=fun x18=>
  S4 x1 x18>>=fun x19=>
  F2 x1.Then (IntKind.i64.wrap (nesting+1)) x19>>=fun x20=>
  F2 x1.Else (IntKind.i64.wrap (nesting+1)) x20>>=fun x21=>
  J3 l nesting x21 (IntKind.i64.wrap (v143+1))
 partial_fixpoint
end
abbrev Wn (l:List C0)(nesting:Int)(syntaxReport:J0)(res:J0):Prop:=O0 C 169 [.ref 0 0,.d (.sl (C0.rows l)),.d (.int .i64 nesting)] [.row (J0.cells syntaxReport) 142] (Ret [.row (J0.cells res) 142] (.tup []))
abbrev Tu (l:List C0)(nesting:Int)(o03:J0)(v14:Int)(res:J0):Prop:=LM C 161 1 Tryz.f169 [1,4] [(0,.ref 0 0),(2,.d (.int .i64 nesting)),(12,.d (.sl (C0.rows l))),(13,.d (.int .i64 ((l).length:Int))),(14,.d (.int .i64 v14))] [.row (J0.cells o03) 142] (Ret [.row (J0.cells res) 142] (.tup []))
abbrev Uu (l:List C0)(nesting:Int)(o0:J0)(x1:C0)(x3:G1×Bool)(v141:Int)(res:J0):Prop:=JM C 161 1 Tryz.f169 [1,4,5,1,1,0,4,1,1,1,1,1,1,1] [(0,.ref 0 0),(2,.d (.int .i64 nesting)),(7,.ref 1 0),(8,.ref 2 0),(12,.d (.sl (C0.rows l))),(13,.d (.int .i64 ((l).length:Int))),(14,.d (.int .i64 v141))] [.row (J0.cells o0) 142,.row (C0.cells x1) 79,.row (G1.cells x3.1) 159] (Ret [.row (J0.cells res) 142] (.tup []))
abbrev Vu (l:List C0)(nesting:Int)(o01:J0)(x1:C0)(x3:G1×Bool)(v142:Int)(res:J0):Prop:=JM C 161 1 Tryz.f169 [1,4,5,1,1,0,4,1,1,1,1,1,1,1,1,1,1] [(0,.ref 0 0),(2,.d (.int .i64 nesting)),(7,.ref 1 0),(8,.ref 2 0),(12,.d (.sl (C0.rows l))),(13,.d (.int .i64 ((l).length:Int))),(14,.d (.int .i64 v142))] [.row (J0.cells o01) 142,.row (C0.cells x1) 79,.row (G1.cells x3.1) 159] (Ret [.row (J0.cells res) 142] (.tup []))
abbrev Wu (l:List C0)(nesting:Int)(o02:J0)(x1:C0)(x3:G1×Bool)(v143:Int)(v84:Int)(res:J0):Prop:=LM C 161 1 Tryz.f169 [1,4,5,1,1,0,4,1,1,1,1,1,1,1,1,1,1,1,0,1,4] [(0,.ref 0 0),(2,.d (.int .i64 nesting)),(7,.ref 1 0),(8,.ref 2 0),(12,.d (.sl (C0.rows l))),(13,.d (.int .i64 ((l).length:Int))),(14,.d (.int .i64 v143)),(82,.d (.sl (A0.rows x1.Args))),(83,.d (.int .i64 ((x1.Args).length:Int))),(84,.d (.int .i64 v84))] [.row (J0.cells o02) 142,.row (C0.cells x1) 79,.row (G1.cells x3.1) 159] (Ret [.row (J0.cells res) 142] (.tup []))
theorem Ew:(∀ l nesting syntaxReport res,F2 l nesting syntaxReport=some res→Wn l nesting syntaxReport res)∧(∀ l nesting o03 v14 res,J3 l nesting o03 v14=some res→Tu l nesting o03 v14 res)∧(∀ l nesting o0 x1 x3 v141 res,F4 l nesting o0 x1 x3 v141=some res→Uu l nesting o0 x1 x3 v141 res)∧(∀ l nesting o01 x1 x3 v142 res,G4 l nesting o01 x1 x3 v142=some res→Vu l nesting o01 x1 x3 v142 res)∧(∀ l nesting o02 x1 x3 v143 v84 res,N5 l nesting o02 x1 x3 v143 v84=some res→Wu l nesting o02 x1 x3 v143 v84 res):=by
 refine F2.mutual_partial_correctness _ _ _ _ _ ?_ ?_ ?_ ?_ ?_
 ·intro g1 ih1 l nesting syntaxReport res hh
  exact O0.intro hC Tryz.func169 rfl rfl rfl (p' 1 rfl (qe' rfl trivial (C0.lenA _) (e' rfl (bk' (fw' (ih1 _ _ _ _ _ hh) rfl rfl rfl)))))
 ·intro g2 ih2 l nesting o03 v14 res hh
  refine D1.unroll (t' rfl (S' (ci' rfl hh (fun hh=>?_) (fun hh=>?_))))
  ·obtain ⟨x1,hx1,hh⟩:=bs' hh
   obtain ⟨x2,hx2,hh⟩:=bs' hh
   obtain ⟨x3,hx3,hh⟩:=bs' hh
   obtain ⟨x4,hx4,hh⟩:=bs' hh
   obtain ⟨x5,hx5,hh⟩:=bs' hh
   refine sk' (S' (bk' (s' rfl rfl (i' rfl (T0 hx1) (C0.idx hx1) rfl (q' rfl (L0.nf hC rfl (L0.s hC rfl (n' (p' 7 rfl (L0.s hC rfl (n' (p' 2 rfl (g' [0] (Ij hx2) rfl rfl rfl rfl rfl rfl ?_)))))))))))))
   refine n' (p' 2 rfl (c' (Qp hx3) rfl rfl (o' 3 rfl (L0.n hC rfl (L0.s hC rfl (e' rfl (p' 2 rfl (g' [0] (W0 hx4) rfl rfl rfl rfl rfl rfl (n' (p' 5 rfl (g' [0] (Xg hx5) rfl rfl rfl rfl rfl rfl (n' (S' ?_)))))))))))))
   refine t' rfl (ci' rfl hh (fun hh=>?_) (fun hh=>?_))
   ·obtain ⟨x6,hx6,hh⟩:=bs' hh
    obtain ⟨x7,hx7,hh⟩:=bs' hh
    exact P' 3 rfl (c' (Zw hx6) rfl rfl (g' [0] (W0 hx7) rfl rfl rfl rfl rfl rfl (n' (ew' (ih2 _ _ _ _ _ _ _ hh) rfl rfl rfl))))
   exact sk' (ew' (ih2 _ _ _ _ _ _ _ hh) rfl rfl rfl)
  cases hh
  exact ex' (rn' rfl rfl rfl)
 ·intro g3 ih3 l nesting o0 x1 x3 v141 res hh
  obtain ⟨x8,hx8,hh⟩:=bs' hh
  obtain ⟨x9,hx9,hh⟩:=bs' hh
  refine p' 5 rfl (g' [0] (Xg hx8) rfl rfl rfl rfl rfl rfl (n' (sg' 8 rfl (G' 5 rfl (a1' rfl (a1' rfl (po' rfl (an' (g' [0] (W0 hx9) rfl rfl rfl rfl rfl rfl (n' (S' (t' rfl (ci' rfl hh (fun hh=>?_) (fun hh=>?_))))))))))))))
  ·obtain ⟨x10,hx10,hh⟩:=bs' hh
   exact P' 3 rfl (g' [0] (Ka hx10) rfl rfl rfl rfl rfl rfl (n' (ew' (ih3 _ _ _ _ _ _ _ hh) rfl rfl rfl)))
  exact sk' (ew' (ih3 _ _ _ _ _ _ _ hh) rfl rfl rfl)
 ·intro g4 ih4 l nesting o01 x1 x3 v142 res hh
  obtain ⟨x11,hx11,hh⟩:=bs' hh
  exact sg' 9 rfl (G' 5 rfl (a1' rfl (AG.qe hC rfl (fun hg=>⟨⟨hg,trivial⟩,trivial⟩) (A0.lenA _) (a1' rfl (po' rfl (an' (g' [0] (W0 hx11) rfl rfl rfl rfl rfl rfl (n' (S' (p' 2 rfl (qe' rfl trivial (A0.lenA _) (e' rfl (bk' (fw' (ih4 _ _ _ _ _ _ _ _ hh) rfl rfl rfl))))))))))))))
 ·intro g0 g1 g4 ih0 ih1 ih4 l nesting o02 x1 x3 v143 v84 res hh
  refine D1.unroll (t' rfl (S' (ci' rfl hh (fun hh=>?_) (fun hh=>?_))))
  ·obtain ⟨x12,hx12,hh⟩:=bs' hh
   obtain ⟨x13,hx13,hh⟩:=bs' hh
   exact sk' (S' (bk' (s' rfl rfl (i' rfl (T0 hx12) (A0.idx hx12) rfl (q' rfl (L0.nf hC rfl (L0.s hC rfl (n' (P' 2 rfl (g' [0] (Lj hx13) rfl rfl rfl rfl rfl rfl (n' (T' rfl (lw' (ih4 _ _ _ _ _ _ _ _ hh) rfl rfl rfl)))))))))))))
  obtain ⟨x14,hx14,hh⟩:=bs' hh
  obtain ⟨x15,hx15,hh⟩:=bs' hh
  obtain ⟨x16,hx16,hh⟩:=bs' hh
  obtain ⟨x17,hx17,hh⟩:=bs' hh
  obtain ⟨x18,hx18,hh⟩:=bs' hh
  obtain ⟨x19,hx19,hh⟩:=bs' hh
  obtain ⟨x20,hx20,hh⟩:=bs' hh
  obtain ⟨x21,hx21,hh⟩:=bs' hh
  refine ex' (sg' 8 rfl (G' 5 rfl (a1' rfl (a1' rfl (po' rfl (an' (g' [0] (W0 hx14) rfl rfl rfl rfl rfl rfl (n' (sg' 13 rfl (G' 5 rfl (a1' rfl (a1' rfl (a1' rfl ?_)))))))))))))
  refine a0' rfl (a1' rfl (a1' rfl (pA' rfl (po' rfl (an' (g' [0] (W0 hx15) rfl rfl rfl rfl rfl rfl (n' (sg' 9 rfl (G' 5 rfl (a1' rfl (AG.qe hC rfl (fun hg=>⟨⟨hg,trivial⟩,trivial⟩) (ei64.lenA _) (a1' rfl (po' rfl ?_)))))))))))))
  refine an' (g' [0] (W0 hx16) rfl rfl rfl rfl rfl rfl (n' (sg' 9 rfl (G' 5 rfl (a1' rfl (AG.qe hC rfl (fun hg=>⟨⟨hg,trivial⟩,trivial⟩) (C0.lenA _) (a1' rfl (po' rfl (an' (g' [0] (W0 hx17) rfl rfl rfl rfl rfl rfl (n' (sg' 9 rfl (G' 5 rfl ?_)))))))))))))
  refine a1' rfl (AG.qe hC rfl (fun hg=>⟨⟨hg,trivial⟩,trivial⟩) (C0.lenA _) (a1' rfl (po' rfl (an' (g' [0] (W0 hx18) rfl rfl rfl rfl rfl rfl (n' (p' 2 rfl (g' [0] (Su hx19) rfl rfl rfl rfl rfl rfl (n' (p' 5 rfl (g' [0] (ih0 _ _ _ _ hx20) rfl rfl rfl rfl rfl rfl (n' (P' 5 rfl ?_)))))))))))))
  exact g' [0] (ih0 _ _ _ _ hx21) rfl rfl rfl rfl rfl rfl (n' (T' rfl (lw' (ih1 _ _ _ _ _ hh) rfl rfl rfl)))
theorem Rm {l nesting syntaxReport res}(hh:F2 l nesting syntaxReport=some res):Wn l nesting syntaxReport res:=(Ew).1 _ _ _ _ hh
mutual
def E3 (l:List F0)(syntaxReport:J0):Option J0:=
 H4 l syntaxReport 0
 partial_fixpoint
def H4 (l:List F0)(o03:J0)(v15:Int):Option J0:=
 if (decide (v15 < ((l).length:Int)))=true then
  idx l v15>>=fun x1=>
  Tf x1.Kind>>=fun x2=>
  S0 x2.1 (J0.mk (IntKind.i64.wrap (o03.nodes+1)) o03.depth o03.badForm o03.badName o03.badNumber)>>=fun x3=>
  (if (!x2.1)=true then P4 x1.TypeV (D0.mk 0 0 0 0 [] [] []) else some default)>>=fun x4=>
  if (bif x2.1 then true else (!x4))=true then
   G3 x1.TypeV 1 x3>>=fun x5=>
   P5 l x5 x1 x2 v15
  else
   P5 l x3 x1 x2 v15
 else
  some o03
 partial_fixpoint
def P5 (l:List F0)(o0:J0)(x1:F0)(x2:Bool×Bool)(v151:Int):Option J0:=
 X2 x1.Name o0>>=fun x6=>
 P2 x1.Value x2.2 x6>>=fun x7=>
 S0 (bif (x1.Kind == 4) then true else (x1.Init == 0)) x7>>=fun x8=>
 S2 x1.Init (-1048576) 1048576>>=fun x9=>
 (if (x9&&(!(x1.TypeV.Kind != 0)))=true then S2 x1.Init 0 1 else some default)>>=fun x10=>
 Q1 (bif x9 then (bif (x1.TypeV.Kind != 0) then true else x10) else false) x8>>=fun x11=>
 S0 (bif (x1.Kind == 6) then true else (bif (bif (((x1.Params).length:Int) == 0) then (((x1.Vars).length:Int) == 0) else false) then (((x1.Body).length:Int) == 0) else false)) x11>>=fun x12=>
 I4 l x12 x1 v151 0
 partial_fixpoint
def I4 (l:List F0)(o01:J0)(x1:F0)(v152:Int)(v109:Int):Option J0:=
 if (decide (v109 < ((x1.Params).length:Int)))=true then
  idx x1.Params v109>>=fun x13=>
  S0 (bif (x13.Kind == 4) then (x13.Init == 0) else false) o01>>=fun x14=>
  I4 l x14 x1 v152 (IntKind.i64.wrap (v109+1))
 else
  Q5 l o01 x1 v152 0
 partial_fixpoint
def Q5 (l:List F0)(o02:J0)(x1:F0)(v153:Int)(v127:Int):Option J0:=
 if (decide (v127 < ((x1.Vars).length:Int)))=true then
  idx x1.Vars v127>>=fun x15=>
  S0 (x15.Kind == 4) o02>>=fun x16=>
  Q5 l x16 x1 v153 (IntKind.i64.wrap (v127+1))
 else
  E3 x1.Params o02>>=fun x17=>
  E3 x1.Vars x17>>=fun x18=>
  F2 x1.Body 1 x18>>=fun x19=>
  H4 l x19 (IntKind.i64.wrap (v153+1))
 partial_fixpoint
end
abbrev Xn (l:List F0)(syntaxReport:J0)(res:J0):Prop:=O0 C 168 [.ref 0 0,.d (.sl (F0.rows l))] [.row (J0.cells syntaxReport) 142] (Ret [.row (J0.cells res) 142] (.tup []))
abbrev Xu (l:List F0)(o03:J0)(v15:Int)(res:J0):Prop:=LM C 150 1 Tryz.f168 [1,4] [(0,.ref 0 0),(13,.d (.sl (F0.rows l))),(14,.d (.int .i64 ((l).length:Int))),(15,.d (.int .i64 v15))] [.row (J0.cells o03) 142] (Ret [.row (J0.cells res) 142] (.tup []))
abbrev Yu (l:List F0)(o0:J0)(x1:F0)(x2:Bool×Bool)(v151:Int)(res:J0):Prop:=JM C 150 1 Tryz.f168 [1,4,5,1,1,0,4,1,1,1,1,1] [(0,.ref 0 0),(5,.ref 1 0),(7,.d (.bool x2.2)),(13,.d (.sl (F0.rows l))),(14,.d (.int .i64 ((l).length:Int))),(15,.d (.int .i64 v151))] [.row (J0.cells o0) 142,.row (F0.cells x1) 75] (Ret [.row (J0.cells res) 142] (.tup []))
abbrev Zu (l:List F0)(o01:J0)(x1:F0)(v152:Int)(v109:Int)(res:J0):Prop:=LM C 150 1 Tryz.f168 [1,4,5,1,1,0,4,1,1,1,1,1,1,1,1,1,1,1,0,1,4] [(0,.ref 0 0),(5,.ref 1 0),(13,.d (.sl (F0.rows l))),(14,.d (.int .i64 ((l).length:Int))),(15,.d (.int .i64 v152)),(107,.d (.sl (F0.rows x1.Params))),(108,.d (.int .i64 ((x1.Params).length:Int))),(109,.d (.int .i64 v109))] [.row (J0.cells o01) 142,.row (F0.cells x1) 75] (Ret [.row (J0.cells res) 142] (.tup []))
abbrev Av (l:List F0)(o02:J0)(x1:F0)(v153:Int)(v127:Int)(res:J0):Prop:=LM C 150 1 Tryz.f168 [1,4,5,1,1,0,4,1,1,1,1,1,1,1,1,1,1,1,1,0,1,4] [(0,.ref 0 0),(5,.ref 1 0),(13,.d (.sl (F0.rows l))),(14,.d (.int .i64 ((l).length:Int))),(15,.d (.int .i64 v153)),(125,.d (.sl (F0.rows x1.Vars))),(126,.d (.int .i64 ((x1.Vars).length:Int))),(127,.d (.int .i64 v127))] [.row (J0.cells o02) 142,.row (F0.cells x1) 75] (Ret [.row (J0.cells res) 142] (.tup []))
theorem Fw:(∀ l syntaxReport res,E3 l syntaxReport=some res→Xn l syntaxReport res)∧(∀ l o03 v15 res,H4 l o03 v15=some res→Xu l o03 v15 res)∧(∀ l o0 x1 x2 v151 res,P5 l o0 x1 x2 v151=some res→Yu l o0 x1 x2 v151 res)∧(∀ l o01 x1 v152 v109 res,I4 l o01 x1 v152 v109=some res→Zu l o01 x1 v152 v109 res)∧(∀ l o02 x1 v153 v127 res,Q5 l o02 x1 v153 v127=some res→Av l o02 x1 v153 v127 res):=by
 refine E3.mutual_partial_correctness _ _ _ _ _ ?_ ?_ ?_ ?_ ?_
 ·intro g1 ih1 l syntaxReport res hh
  exact O0.intro hC Tryz.func168 rfl rfl rfl (p' 1 rfl (qe' rfl trivial (F0.lenA _) (e' rfl (bk' (fw' (ih1 _ _ _ _ hh) rfl rfl rfl)))))
 ·intro g2 ih2 l o03 v15 res hh
  refine D1.unroll (t' rfl (S' (ci' rfl hh (fun hh=>?_) (fun hh=>?_))))
  ·obtain ⟨x1,hx1,hh⟩:=bs' hh
   obtain ⟨x2,hx2,hh⟩:=bs' hh
   obtain ⟨x3,hx3,hh⟩:=bs' hh
   obtain ⟨x4,hx4,hh⟩:=bs' hh
   refine sk' (S' (bk' (s' rfl rfl (i' rfl (T0 hx1) (F0.idx hx1) rfl (q' rfl (L0.nf hC rfl (L0.s hC rfl (n' (p' 7 rfl (L0.s hC rfl (n' (p' 2 rfl (c' (U13 hx2) rfl rfl ?_)))))))))))))
   refine e' rfl (p' 2 rfl (g' [0] (W0 hx3) rfl rfl rfl rfl rfl rfl (n' (S' (sg' 8 rfl (G' 3 rfl (a1' rfl (a0' rfl (AG.c rfl rfl (fun hg=>⟨hg,hg,trivial⟩) (fun hw=>Z11 (W1 hw hx4)) (a1' rfl (po' rfl (an' (n' (ci' rfl hh (fun hh=>?_) (fun hh=>?_)))))))))))))))
   ·obtain ⟨x5,hx5,hh⟩:=bs' hh
    exact P' 3 rfl (g' [0] (C10 hx5) rfl rfl rfl rfl rfl rfl (n' (ew' (ih2 _ _ _ _ _ _ hh) rfl rfl rfl)))
   exact sk' (ew' (ih2 _ _ _ _ _ _ hh) rfl rfl rfl)
  cases hh
  exact ex' (rn' rfl rfl rfl)
 ·intro g3 ih3 l o0 x1 x2 v151 res hh
  obtain ⟨x6,hx6,hh⟩:=bs' hh
  obtain ⟨x7,hx7,hh⟩:=bs' hh
  obtain ⟨x8,hx8,hh⟩:=bs' hh
  obtain ⟨x9,hx9,hh⟩:=bs' hh
  obtain ⟨x10,hx10,hh⟩:=bs' hh
  obtain ⟨x11,hx11,hh⟩:=bs' hh
  obtain ⟨x12,hx12,hh⟩:=bs' hh
  refine p' 3 rfl (g' [0] (Ka hx6) rfl rfl rfl rfl rfl rfl (n' (p' 4 rfl (g' [0] (Xg hx7) rfl rfl rfl rfl rfl rfl (n' (sg' 9 rfl (G' 6 rfl (a1' rfl (a1' rfl (po' rfl (an' (g' [0] (W0 hx8) rfl rfl rfl rfl rfl rfl (n' ?_)))))))))))))
  refine sg' 15 rfl (G' 3 rfl (AG.c rfl rfl (fun _=>trivial) (fun _=>U3 hx9) (G' 2 rfl (a1' rfl (a1' rfl (a1' rfl (a1' rfl (a0' rfl (a1' rfl (AG.c rfl rfl (fun hg=>⟨hg,trivial⟩) (fun hw=>U3 (W1 hw hx10)) (pO' rfl (pa' rfl (an' ?_)))))))))))))
  refine g' [0] (R2 hx11) rfl rfl rfl rfl rfl rfl (n' (t' rfl (sg' 20 rfl (G' 4 rfl (a1' rfl (AG.qe hC rfl (fun hg=>⟨⟨hg,trivial⟩,trivial⟩) (F0.lenA _) (a1' rfl (a1' rfl (a0' rfl (a1' rfl (AG.qe hC rfl (fun hg=>⟨⟨hg,trivial⟩,trivial⟩) (F0.lenA _) (a1' rfl (pA' rfl ?_)))))))))))))
  refine a1' rfl (a0' rfl (a1' rfl (AG.qe hC rfl (fun hg=>⟨⟨hg,trivial⟩,trivial⟩) (C0.lenA _) (a1' rfl (pA' rfl (po' rfl (an' (g' [0] (W0 hx12) rfl rfl rfl rfl rfl rfl (n' (S' (p' 2 rfl (qe' rfl trivial (F0.lenA _) (e' rfl ?_)))))))))))))
  exact bk' (fw' (ih3 _ _ _ _ _ _ hh) rfl rfl rfl)
 ·intro g3 g4 ih3 ih4 l o01 x1 v152 v109 res hh
  refine D1.unroll (t' rfl (S' (ci' rfl hh (fun hh=>?_) (fun hh=>?_))))
  ·obtain ⟨x13,hx13,hh⟩:=bs' hh
   obtain ⟨x14,hx14,hh⟩:=bs' hh
   refine sk' (S' (bk' (s' rfl rfl (i' rfl (T0 hx13) (F0.idx hx13) rfl (q' rfl (L0.nf hC rfl (L0.s hC rfl (n' (AEx.regionG 9 rfl (G' 6 rfl (a1' rfl (a1' rfl (pa' rfl ?_)))))))))))))
   exact an' (g' [0] (W0 hx14) rfl rfl rfl rfl rfl rfl (n' (T' rfl (lw' (ih3 _ _ _ _ _ _ hh) rfl rfl rfl))))
  exact ex' (S' (p' 2 rfl (qe' rfl trivial (F0.lenA _) (e' rfl (bk' (fw' (ih4 _ _ _ _ _ _ hh) rfl rfl rfl))))))
 ·intro g0 g1 g4 ih0 ih1 ih4 l o02 x1 v153 v127 res hh
  refine D1.unroll (t' rfl (S' (ci' rfl hh (fun hh=>?_) (fun hh=>?_))))
  ·obtain ⟨x15,hx15,hh⟩:=bs' hh
   obtain ⟨x16,hx16,hh⟩:=bs' hh
   exact sk' (S' (bk' (s' rfl rfl (i' rfl (T0 hx15) (F0.idx hx15) rfl (q' rfl (L0.nf hC rfl (L0.s hC rfl (n' (P' 4 rfl (g' [0] (W0 hx16) rfl rfl rfl rfl rfl rfl (n' (T' rfl (lw' (ih4 _ _ _ _ _ _ hh) rfl rfl rfl)))))))))))))
  obtain ⟨x17,hx17,hh⟩:=bs' hh
  obtain ⟨x18,hx18,hh⟩:=bs' hh
  obtain ⟨x19,hx19,hh⟩:=bs' hh
  exact ex' (p' 3 rfl (g' [0] (ih0 _ _ _ hx17) rfl rfl rfl rfl rfl rfl (n' (p' 3 rfl (g' [0] (ih0 _ _ _ hx18) rfl rfl rfl rfl rfl rfl (n' (P' 3 rfl (g' [0] (Rm hx19) rfl rfl rfl rfl rfl rfl (n' (T' rfl (lw' (ih1 _ _ _ _ hh) rfl rfl rfl)))))))))))
theorem Vx {l syntaxReport res}(hh:E3 l syntaxReport=some res):Xn l syntaxReport res:=(Fw).1 _ _ _ hh
def Ma (p:Q0):Option J0:=
 E3 p.Decls (J0.mk 0 0 false false false)>>=fun x1=>
 F2 p.Body 1 x1>>=fun x2=>
 some x2
theorem Ks {p res}(hh:Ma p=some res):O0 C 88 [.agg (Q0.cells p)] [] (Ret [.dead,.row (J0.cells res) 142] (.ref 1 0)):=by
 unfold Ma at hh
 obtain ⟨x1,hx1,hh⟩:=bs' hh
 obtain ⟨x2,hx2,hh⟩:=bs' hh
 refine O0.intro hC Tryz.func88 rfl rfl rfl (s' rfl rfl (L0.n hC rfl (e' rfl (p' 1 rfl (L0.n hC rfl (e' rfl (p' 3 rfl (g' [1] (Vx hx1) rfl rfl rfl rfl rfl rfl (n' (p' 3 rfl (g' [1] (Rm hx2) rfl rfl rfl rfl rfl rfl (n' (t' rfl ?_)))))))))))))
 refine re' ?_
 obtain rfl:=oi' hh
 exact ⟨_,_,[.dead,.row (J0.cells x2) 142],rfl,.rfl,⟨trivial,⟨rfl,.refl _,rfl⟩,trivial⟩,rfl,rfl,rfl,rfl⟩
def Df (p:Q0):Option Int:=
 Ma p>>=fun x1=>
 D4 x1>>=fun x2=>
 some x2
theorem Bx {p res}(hh:Df p=some res):O0 C 43 [.agg (Q0.cells p)] [] (Ret [] (.d (.int .i64 res))):=by
 unfold Df at hh
 obtain ⟨x1,hx1,hh⟩:=bs' hh
 obtain ⟨x2,hx2,hh⟩:=bs' hh
 cases hh
 exact O0.intro hC Tryz.func43 rfl rfl rfl (s' rfl rfl (L0.n hC rfl (e' rfl (p' 1 rfl (g' [] (Ks hx1) rfl rfl rfl rfl rfl rfl (g' [2] (Mj hx2) rfl rfl rfl rfl rfl rfl (e' rfl (re' (rt' rfl rfl rfl)))))))))
mutual
def M3 (t:D0)(b:Str):Option Str:=
 if (t.Kind == 0)=true then
  I0 [98,111,111,108] b>>=fun x1=>
  some x1.2
 else
  if (t.Kind == 1)=true then
   Hj t.Low>>=fun x2=>
   if (decide (4+x2.length≤maxLen))=true then
    if (decide (([105,110,116,91]++x2).length+2≤maxLen))=true then
     Hj t.High>>=fun x3=>
     if (decide ((([105,110,116,91]++x2)++[46,46]).length+x3.length≤maxLen))=true then
      if (decide (((([105,110,116,91]++x2)++[46,46])++x3).length+1≤maxLen))=true then
       I0 (((([105,110,116,91]++x2)++[46,46])++x3)++[93]) b>>=fun x4=>
       some x4.2
      else none
     else none
    else none
   else none
  else
   if (t.Kind == 2)=true then
    Hj t.Size>>=fun x5=>
    if (decide (6+x5.length≤maxLen))=true then
     if (decide (([97,114,114,97,121,32]++x5).length+4≤maxLen))=true then
      I0 (([97,114,114,97,121,32]++x5)++[32,111,102,32]) b>>=fun x6=>
      idx t.Of 0>>=fun x7=>
      M3 x7 x6.2>>=fun x14=>
      some x14
     else none
    else none
   else
    if (t.Kind == 3)=true then
     I0 [114,101,99,111,114,100,32,123] b>>=fun x8=>
     Na t x8.2 0
    else
     if (t.Kind == 4)=true then
      I0 t.Name b>>=fun x9=>
      some x9.2
     else
      some b
 partial_fixpoint
def Na (t:D0)(b1:Str)(v56:Int):Option Str:=
 if (decide (v56 < ((t.Of).length:Int)))=true then
  idx t.Of v56>>=fun x10=>
  if (decide (v56 > 0))=true then
   I0 [44,32] b1>>=fun x16=>
   Oa t x16.2 x10 v56 v56
  else
   Oa t b1 x10 v56 v56
 else
  I0 [125] b1>>=fun x13=>
  some x13.2
 partial_fixpoint
def Oa (t:D0)(b11:Str)(x10:D0)(i:Int)(v561:Int):Option Str:=
 idx t.Names i>>=fun x11=>
 if (decide (x11.length+2≤maxLen))=true then
  I0 (x11++[58,32]) b11>>=fun x12=>
  M3 x10 x12.2>>=fun x15=>
  Na t x15 (IntKind.i64.wrap (v561+1))
 else none
 partial_fixpoint
end
abbrev Ko (t:D0)(b:Str)(res:Str):Prop:=O0 C 164 [.ref 0 0,.agg (D0.cells t)] [.bld 1 129,.buf 5 b] (Ret [.bld 1 129,.buf 5 res] (.tup []))
abbrev Gw (t:D0)(b1:Str)(v56:Int)(res:Str):Prop:=LM C 93 2 Tryz.f164 [1,1,4,1,3,1,3,1,3,1,2,1,0,1,4] [(0,.ref 0 0),(3,.ref 2 0),(54,.d (.sl (D0.rows t.Of))),(55,.d (.int .i64 ((t.Of).length:Int))),(56,.d (.int .i64 v56))] [.bld 1 129,.buf 5 b1,.row (D0.cells t) 48] (Ret [.bld 1 129,.buf 5 res] (.tup []))
abbrev Hw (t:D0)(b11:Str)(x10:D0)(i:Int)(v561:Int)(res:Str):Prop:=JM C 93 2 Tryz.f164 [1,1,4,1,3,1,3,1,3,1,2,1,0,1,4,5,1,1,0,4,1,1] [(0,.ref 0 0),(3,.ref 2 0),(4,.d (.int .i64 i)),(5,.ref 3 0),(54,.d (.sl (D0.rows t.Of))),(55,.d (.int .i64 ((t.Of).length:Int))),(56,.d (.int .i64 v561))] [.bld 1 129,.buf 5 b11,.row (D0.cells t) 48,.row (D0.cells x10) 48] (Ret [.bld 1 129,.buf 5 res] (.tup []))
theorem Wx:(∀ t b res,M3 t b=some res→Ko t b res)∧(∀ t b1 v56 res,Na t b1 v56=some res→Gw t b1 v56 res)∧(∀ t b11 x10 i v561 res,Oa t b11 x10 i v561=some res→Hw t b11 x10 i v561 res):=by
 refine M3.mutual_partial_correctness _ _ _ ?_ ?_ ?_
 ·intro g0 g1 ih0 ih1 t b res hh
  refine O0.intro hC Tryz.func164 rfl rfl rfl (s' rfl rfl (L0.n hC rfl (n' (t' rfl (bk' (t' rfl (ci' rfl hh (fun hh=>?_) (fun hh=>?_))))))))
  ·obtain ⟨x1,hx1,hh⟩:=bs' hh
   cases hh
   exact P' 3 rfl (g' [0,1] (K0 hx1) rfl rfl rfl rfl rfl rfl (n' (rn' rfl rfl rfl)))
  refine t' rfl (ci' rfl hh (fun hh=>?_) (fun hh=>?_))
  ·obtain ⟨x2,hx2,hh⟩:=bs' hh
   obtain ⟨c56,hh⟩:=X0 hh
   obtain ⟨c57,hh⟩:=X0 hh
   obtain ⟨x3,hx3,hh⟩:=bs' hh
   obtain ⟨c58,hh⟩:=X0 hh
   obtain ⟨c59,hh⟩:=X0 hh
   obtain ⟨x4,hx4,hh⟩:=bs' hh
   cases hh
   exact AEx.draw hC 13 rfl rfl rfl (O' 5 rfl (Qc' (Ch hx2) rfl rfl (AQ.q hC rfl c56 (AQ.q hC rfl c57 (O' 2 rfl (Qc' (Ch hx3) rfl rfl (AQ.q hC rfl c58 (AQ.q hC rfl c59 (Qn' (g' [0,1] (K0 hx4) rfl rfl rfl rfl rfl rfl (n' (rn' rfl rfl rfl))))))))))))
  refine t' rfl (ci' rfl hh (fun hh=>?_) (fun hh=>?_))
  ·obtain ⟨x5,hx5,hh⟩:=bs' hh
   obtain ⟨c60,hh⟩:=X0 hh
   obtain ⟨c61,hh⟩:=X0 hh
   obtain ⟨x6,hx6,hh⟩:=bs' hh
   obtain ⟨x7,hx7,hh⟩:=bs' hh
   obtain ⟨x14,hx14,hh⟩:=bs' hh
   cases hh
   exact S' (AEx.draw hC 8 rfl rfl rfl (O' 5 rfl (Qc' (Ch hx5) rfl rfl (AQ.q hC rfl c60 (AQ.q hC rfl c61 (Qn' (g' [0,1] (K0 hx6) rfl rfl rfl rfl rfl rfl (n' (P' 3 rfl (i' rfl (T0 hx7) (D0.idx hx7) rfl (q' rfl (g' [0,1] (ih0 _ _ _ hx14) rfl rfl rfl rfl rfl rfl (n' (rn' rfl rfl rfl))))))))))))))
  refine t' rfl (ci' rfl hh (fun hh=>?_) (fun hh=>?_))
  ·obtain ⟨x8,hx8,hh⟩:=bs' hh
   exact p' 3 rfl (g' [0,1] (K0 hx8) rfl rfl rfl rfl rfl rfl (n' (S' (p' 2 rfl (qe' rfl trivial (D0.lenA _) (e' rfl (bk' (fw' (ih1 _ _ _ _ hh) rfl rfl rfl))))))))
  refine t' rfl (ci' rfl hh (fun hh=>?_) (fun hh=>?_))
  ·obtain ⟨x9,hx9,hh⟩:=bs' hh
   cases hh
   exact AEx.draw hC 5 rfl rfl rfl (E' rfl (g' [0,1] (K0 hx9) rfl rfl rfl rfl rfl rfl (n' (rn' rfl rfl rfl))))
  cases hh
  exact sk' (rn' rfl rfl rfl)
 ·intro g2 ih2 t b1 v56 res hh
  refine D1.unroll (t' rfl (S' (ci' rfl hh (fun hh=>?_) (fun hh=>?_))))
  ·obtain ⟨x10,hx10,hh⟩:=bs' hh
   refine sk' (S' (bk' (p' 1 rfl (i' rfl (T0 hx10) (D0.idx hx10) rfl (q' rfl (L0.nf hC rfl (q' rfl (L0.s hC rfl (n' (S' (t' rfl (ci' rfl hh (fun hh=>?_) (fun hh=>?_)))))))))))))
   ·obtain ⟨x16,hx16,hh⟩:=bs' hh
    exact P' 3 rfl (g' [0,1] (K0 hx16) rfl rfl rfl rfl rfl rfl (n' (ew' (ih2 _ _ _ _ _ _ hh) rfl rfl rfl)))
   exact sk' (ew' (ih2 _ _ _ _ _ _ hh) rfl rfl rfl)
  obtain ⟨x13,hx13,hh⟩:=bs' hh
  cases hh
  exact ex' (P' 3 rfl (g' [0,1] (K0 hx13) rfl rfl rfl rfl rfl rfl (n' (rn' rfl rfl rfl))))
 ·intro g0 g1 ih0 ih1 t b11 x10 i v561 res hh
  obtain ⟨x11,hx11,hh⟩:=bs' hh
  obtain ⟨c62,hh⟩:=X0 hh
  obtain ⟨x12,hx12,hh⟩:=bs' hh
  obtain ⟨x15,hx15,hh⟩:=bs' hh
  exact S' (AEx.draw hC 9 rfl rfl rfl (O' 6 rfl (AQ.i hC rfl (T0 hx11) (estr.idx hx11) rfl (Q' rfl (AQ.q hC rfl c62 (Qn' (g' [0,1] (K0 hx12) rfl rfl rfl rfl rfl rfl (n' (P' 2 rfl (g' [0,1] (ih0 _ _ _ hx15) rfl rfl rfl rfl rfl rfl (n' (T' rfl (lw' (ih1 _ _ _ _ hh) rfl rfl rfl)))))))))))))
theorem Oj {t b res}(hh:M3 t b=some res):Ko t b res:=(Wx).1 _ _ _ hh
end Go.Proofs.YtbmlpamppbcdeaaGreatDoor

set_option maxRecDepth 100000
set_option maxHeartbeats 4000000
set_option synthInstance.maxSize 20000
set_option linter.unusedVariables false
namespace Go.Proofs.YtbmlpamppbcdeaaGreatDoor
open Go.Am
def K3 (name:Str)(t:D0)(b:Str):Option Str:=
 if (decide (name.length+2≤maxLen))=true then
  I0 (name++[58,32]) b>>=fun x1=>
  M3 t x1.2>>=fun x2=>
  some x2
 else none
theorem L6 {name t b res}(hh:K3 name t b=some res):O0 C 165 [.ref 0 0,.d (.str name),.agg (D0.cells t)] [.bld 1 129,.buf 5 b] (Ret [.bld 1 129,.buf 5 res] (.tup [])):=by
 unfold K3 at hh
 obtain ⟨c5,hh⟩:=X0 hh
 obtain ⟨x1,hx1,hh⟩:=bs' hh
 obtain ⟨x2,hx2,hh⟩:=bs' hh
 cases hh
 exact O0.intro hC Tryz.func165 rfl rfl rfl (s' rfl rfl (L0.n hC rfl (n' (p' 4 rfl (qc' rfl c5 (g' [0,1] (K0 hx1) rfl rfl rfl rfl rfl rfl (n' (P' 2 rfl (g' [0,1] (Oj hx2) rfl rfl rfl rfl rfl rfl (n' (rn' rfl rfl rfl)))))))))))
def Y4 (x2:Str)(value:Str):Option Str:=
 if (decide (3+value.length≤maxLen))=true then
  I0 ([32,61,32]++value) x2>>=fun x4=>
  I0 [59,10] x4.2>>=fun x5=>
  some x5.2
 else none
theorem Pi {x2 value res}(hh:Y4 x2 value=some res):JM C 35 2 Tryz.f162 [1,1,1,0,1,2,1,1] [(0,.ref 0 0),(4,.d (.str value))] [.bld 1 129,.buf 5 x2] (Ret [.bld 1 129,.buf 5 res] (.tup [])):=by
 unfold Y4 at hh
 obtain ⟨c6,hh⟩:=X0 hh
 obtain ⟨x4,hx4,hh⟩:=bs' hh
 obtain ⟨x5,hx5,hh⟩:=bs' hh
 cases hh
 exact P' 4 rfl (qc' rfl c6 (g' [0,1] (K0 hx4) rfl rfl rfl rfl rfl rfl (n' (P' 3 rfl (g' [0,1] (K0 hx5) rfl rfl rfl rfl rfl rfl (n' (rn' rfl rfl rfl)))))))
def M6 (d:F0)(b:Str):Option Str:=
 I0 [118,97,114,32] b>>=fun x1=>
 K3 d.Name d.TypeV x1.2>>=fun x2=>
 if (d.Init != 0)=true then
  Hj d.Init>>=fun x3=>
  if (d.TypeV.Kind == 0)=true then
   Y4 x2 [116,114,117,101]
  else
   Y4 x2 x3
 else
  I0 [59,10] x2>>=fun x5=>
  some x5.2
theorem Sk {d b res}(hh:M6 d b=some res):O0 C 162 [.ref 0 0,.agg (F0.cells d)] [.bld 1 129,.buf 5 b] (Ret [.bld 1 129,.buf 5 res] (.tup [])):=by
 unfold M6 at hh
 obtain ⟨x1,hx1,hh⟩:=bs' hh
 obtain ⟨x2,hx2,hh⟩:=bs' hh
 refine O0.intro hC Tryz.func162 rfl rfl rfl (s' rfl rfl (L0.n hC rfl (n' (p' 3 rfl (g' [0,1] (K0 hx1) rfl rfl rfl rfl rfl rfl (n' (p' 5 rfl (g' [0,1] (L6 hx2) rfl rfl rfl rfl rfl rfl (n' (S' (t' rfl (ci' rfl hh (fun hh=>?_) (fun hh=>?_)))))))))))))
 ·obtain ⟨x3,hx3,hh⟩:=bs' hh
  refine p' 2 rfl (c' (Ch hx3) rfl rfl (e' rfl (S' (t' rfl (ci' rfl hh (fun hh=>?_) (fun hh=>?_))))))
  ·exact T' rfl (ew' (Pi hh) rfl rfl rfl)
  exact sk' (ew' (Pi hh) rfl rfl rfl)
 obtain ⟨x5,hx5,hh⟩:=bs' hh
 cases hh
 exact sk' (P' 3 rfl (g' [0,1] (K0 hx5) rfl rfl rfl rfl rfl rfl (n' (rn' rfl rfl rfl))))
mutual
def J4 (s:C0)(b1:Str)(v163:Int):Option Str:=
 if (decide (v163 < ((s.Numbers).length:Int)))=true then
  idx s.Numbers v163>>=fun x25=>
  if (decide (v163 > 0))=true then
   I0 [44,32] b1>>=fun x28=>
   X9 s x28.2 x25 v163
  else
   X9 s b1 x25 v163
 else
  I0 [59] b1>>=fun x13=>
  some x13.2
 partial_fixpoint
def X9 (s:C0)(b11:Str)(x25:Int)(v1631:Int):Option Str:=
 Hj x25>>=fun x26=>
 I0 x26 b11>>=fun x27=>
 J4 s x27.2 (IntKind.i64.wrap (v1631+1))
 partial_fixpoint
end
abbrev Kl (s:C0)(b1:Str)(v163:Int)(res:Str):Prop:=LM C 185 2 Tryz.f167 [1,0,1,4,1,3,1,3,1,3,1,3,1,3,1,3,1,3,1,3,1,2,1,1,4] [(0,.ref 0 0),(161,.d (.sl (ei64.rows s.Numbers))),(162,.d (.int .i64 ((s.Numbers).length:Int))),(163,.d (.int .i64 v163))] [.bld 1 129,.buf 5 b1] (Ret [.bld 1 129,.buf 5 res] (.tup []))
abbrev Bv (s:C0)(b11:Str)(x25:Int)(v1631:Int)(res:Str):Prop:=JM C 185 2 Tryz.f167 [1,0,1,4,1,3,1,3,1,3,1,3,1,3,1,3,1,3,1,3,1,2,1,1,4,5,1,1,0,4,1,1] [(0,.ref 0 0),(7,.d (.int .i64 x25)),(161,.d (.sl (ei64.rows s.Numbers))),(162,.d (.int .i64 ((s.Numbers).length:Int))),(163,.d (.int .i64 v1631))] [.bld 1 129,.buf 5 b11] (Ret [.bld 1 129,.buf 5 res] (.tup []))
theorem Cs (s:C0):(∀ b1 v163 res,J4 s b1 v163=some res→Kl s b1 v163 res)∧(∀ b11 x25 v1631 res,X9 s b11 x25 v1631=some res→Bv s b11 x25 v1631 res):=by
 refine J4.mutual_partial_correctness s _ _ ?_ ?_
 ·intro g1 ih1 b1 v163 res hh
  refine D1.unroll (t' rfl (S' (ci' rfl hh (fun hh=>?_) (fun hh=>?_))))
  ·obtain ⟨x25,hx25,hh⟩:=bs' hh
   refine sk' (S' (bk' (p' 1 rfl (i' rfl (T0 hx25) (ei64.idx hx25) rfl (e' rfl (S' (t' rfl (ci' rfl hh (fun hh=>?_) (fun hh=>?_)))))))))
   ·obtain ⟨x28,hx28,hh⟩:=bs' hh
    exact P' 3 rfl (g' [0,1] (K0 hx28) rfl rfl rfl rfl rfl rfl (n' (ew' (ih1 _ _ _ _ hh) rfl rfl rfl)))
   exact sk' (ew' (ih1 _ _ _ _ hh) rfl rfl rfl)
  obtain ⟨x13,hx13,hh⟩:=bs' hh
  cases hh
  exact ex' (P' 3 rfl (g' [0,1] (K0 hx13) rfl rfl rfl rfl rfl rfl (n' (rn' rfl rfl rfl))))
 ·intro g0 ih0 b11 x25 v1631 res hh
  obtain ⟨x26,hx26,hh⟩:=bs' hh
  obtain ⟨x27,hx27,hh⟩:=bs' hh
  exact AEx.draw hC 5 rfl rfl rfl (O' 4 rfl (Qc' (Ch hx26) rfl rfl (Qn' (g' [0,1] (K0 hx27) rfl rfl rfl rfl rfl rfl (n' (T' rfl (lw' (ih0 _ _ _ hh) rfl rfl rfl)))))))
theorem Kt {s b1 v163 res}(hh:J4 s b1 v163=some res):Kl s b1 v163 res:=(Cs s).1 _ _ _ hh
mutual
def C4 (l:List C0)(margin:Str)(b:Str):Option Str:=
 A9 l margin b 0
 partial_fixpoint
def A9 (l:List C0)(margin:Str)(b1:Str)(v10:Int):Option Str:=
 if (decide (v10 < ((l).length:Int)))=true then
  idx l v10>>=fun x1=>
  I0 margin b1>>=fun x2=>
  Nh x1 margin x2.2>>=fun x3=>
  I0 [10] x3>>=fun x4=>
  A9 l margin x4.2 (IntKind.i64.wrap (v10+1))
 else
  some b1
 partial_fixpoint
def Nh (s:C0)(margin:Str)(b:Str):Option Str:=
 if (s.Verb == 5)=true then
  I0 [105,102,32] b>>=fun x1=>
  A1 s.Value x1.2>>=fun x2=>
  S6 s.Then margin x2>>=fun x29=>
  if (decide (((s.Else).length:Int) > 0))=true then
   I0 [32,101,108,115,101] x29>>=fun x30=>
   S6 s.Else margin x30.2>>=fun x31=>
   some x31
  else
   some x29
 else
  if (s.Verb == 6)=true then
   I0 [119,104,105,108,101,32] b>>=fun x3=>
   A1 s.Value x3.2>>=fun x4=>
   Hj s.NV>>=fun x5=>
   if (decide (7+x5.length≤maxLen))=true then
    I0 ([32,108,105,109,105,116,32]++x5) x4>>=fun x6=>
    S6 s.Then margin x6.2>>=fun x32=>
    some x32
   else none
  else
   if (s.Verb == 7)=true then
    if (decide (4+s.Name.length≤maxLen))=true then
     if (decide (([102,111,114,32]++s.Name).length+3≤maxLen))=true then
      Hj s.Low>>=fun x7=>
      if (decide ((([102,111,114,32]++s.Name)++[32,61,32]).length+x7.length≤maxLen))=true then
       if (decide (((([102,111,114,32]++s.Name)++[32,61,32])++x7).length+4≤maxLen))=true then
        Hj s.High>>=fun x8=>
        if (decide ((((([102,111,114,32]++s.Name)++[32,61,32])++x7)++[32,116,111,32]).length+x8.length≤maxLen))=true then
         I0 ((((([102,111,114,32]++s.Name)++[32,61,32])++x7)++[32,116,111,32])++x8) b>>=fun x9=>
         S6 s.Then margin x9.2>>=fun x33=>
         some x33
        else none
       else none
      else none
     else none
    else none
   else
    if (s.Verb == 0)=true then
     A1 s.Place b>>=fun x10=>
     I0 [32,61,32] x10>>=fun x11=>
     A1 s.Value x11.2>>=fun x12=>
     I0 [59] x12>>=fun x13=>
     some x13.2
    else
     if (s.Verb == 1)=true then
      A1 s.Place b>>=fun x14=>
      if (decide (8+s.Name.length≤maxLen))=true then
       if (decide (([32,61,32,99,97,108,108,32]++s.Name).length+1≤maxLen))=true then
        I0 (([32,61,32,99,97,108,108,32]++s.Name)++[40]) x14>>=fun x15=>
        Q7 s.Args x15.2>>=fun x16=>
        I0 [41] x16>>=fun x17=>
        I0 [59] x17.2>>=fun x13=>
        some x13.2
       else none
      else none
     else
      if (s.Verb == 2)=true then
       A1 s.Place b>>=fun x18=>
       if (decide (11+s.Name.length≤maxLen))=true then
        I0 ([32,61,32,114,101,108,101,97,115,101,32]++s.Name) x18>>=fun x19=>
        I0 [59] x19.2>>=fun x13=>
        some x13.2
       else none
      else
       if (s.Verb == 3)=true then
        I0 [111,117,116,112,117,116,32] b>>=fun x20=>
        A1 s.Value x20.2>>=fun x21=>
        I0 [59] x21>>=fun x13=>
        some x13.2
       else
        if (s.Verb == 4)=true then
         Hj s.NV>>=fun x22=>
         if (decide (5+x22.length≤maxLen))=true then
          I0 ([119,97,105,116,32]++x22) b>>=fun x23=>
          I0 [59] x23.2>>=fun x13=>
          some x13.2
         else none
        else
         if (s.Verb == 8)=true then
          I0 [115,101,116,116,108,101,32] b>>=fun x24=>
          J4 s x24.2 0
         else
          I0 [59] b>>=fun x13=>
          some x13.2
 partial_fixpoint
def S6 (l:List C0)(margin:Str)(b:Str):Option Str:=
 I0 [32,123,10] b>>=fun x1=>
 if (decide (margin.length+1≤maxLen))=true then
  C4 l (margin++[9]) x1.2>>=fun x2=>
  if (decide (margin.length+1≤maxLen))=true then
   I0 (margin++[125]) x2>>=fun x3=>
   some x3.2
  else none
 else none
 partial_fixpoint
end
abbrev Sm (l:List C0)(margin:Str)(b:Str)(res:Str):Prop:=O0 C 87 [.ref 0 0,.d (.sl (C0.rows l)),.d (.str margin)] [.bld 1 129,.buf 5 b] (Ret [.bld 1 129,.buf 5 res] (.tup []))
abbrev Lt (l:List C0)(margin:Str)(b1:Str)(v10:Int)(res:Str):Prop:=LM C 28 2 Tryz.f87 [1,4] [(0,.ref 0 0),(2,.d (.str margin)),(8,.d (.sl (C0.rows l))),(9,.d (.int .i64 ((l).length:Int))),(10,.d (.int .i64 v10))] [.bld 1 129,.buf 5 b1] (Ret [.bld 1 129,.buf 5 res] (.tup []))
abbrev Yy (s:C0)(margin:Str)(b:Str)(res:Str):Prop:=O0 C 167 [.ref 0 0,.agg (C0.cells s),.d (.str margin)] [.bld 1 129,.buf 5 b] (Ret [.bld 1 129,.buf 5 res] (.tup []))
abbrev Xx (l:List C0)(margin:Str)(b:Str)(res:Str):Prop:=O0 C 226 [.ref 0 0,.d (.sl (C0.rows l)),.d (.str margin)] [.bld 1 129,.buf 5 b] (Ret [.bld 1 129,.buf 5 res] (.tup []))
theorem Cv:(∀ l margin b res,C4 l margin b=some res→Sm l margin b res)∧(∀ l margin b1 v10 res,A9 l margin b1 v10=some res→Lt l margin b1 v10 res)∧(∀ s margin b res,Nh s margin b=some res→Yy s margin b res)∧(∀ l margin b res,S6 l margin b=some res→Xx l margin b res):=by
 refine C4.mutual_partial_correctness _ _ _ _ ?_ ?_ ?_ ?_
 ·intro g1 ih1 l margin b res hh
  exact O0.intro hC Tryz.func87 rfl rfl rfl (p' 1 rfl (qe' rfl trivial (C0.lenA _) (e' rfl (bk' (fw' (ih1 _ _ _ _ _ hh) rfl rfl rfl)))))
 ·intro g1 g2 ih1 ih2 l margin b1 v10 res hh
  refine D1.unroll (t' rfl (S' (ci' rfl hh (fun hh=>?_) (fun hh=>?_))))
  ·obtain ⟨x1,hx1,hh⟩:=bs' hh
   obtain ⟨x2,hx2,hh⟩:=bs' hh
   obtain ⟨x3,hx3,hh⟩:=bs' hh
   obtain ⟨x4,hx4,hh⟩:=bs' hh
   refine sk' (S' (bk' (s' rfl rfl (i' rfl (T0 hx1) (C0.idx hx1) rfl (q' rfl (L0.nf hC rfl (L0.s hC rfl (n' (p' 4 rfl (g' [0,1] (K0 hx2) rfl rfl rfl rfl rfl rfl (n' (p' 3 rfl (g' [0,1] (ih2 _ _ _ _ hx3) rfl rfl rfl rfl rfl rfl ?_)))))))))))))
   exact n' (P' 3 rfl (g' [0,1] (K0 hx4) rfl rfl rfl rfl rfl rfl (n' (T' rfl (lw' (ih1 _ _ _ _ _ hh) rfl rfl rfl)))))
  cases hh
  exact ex' (rn' rfl rfl rfl)
 ·intro g3 ih3 s margin b res hh
  refine O0.intro hC Tryz.func167 rfl rfl rfl (s' rfl rfl (L0.n hC rfl (n' (S' (t' rfl (bk' (t' rfl (ci' rfl hh (fun hh=>?_) (fun hh=>?_)))))))))
  ·obtain ⟨x1,hx1,hh⟩:=bs' hh
   obtain ⟨x2,hx2,hh⟩:=bs' hh
   obtain ⟨x29,hx29,hh⟩:=bs' hh
   refine p' 3 rfl (g' [0,1] (K0 hx1) rfl rfl rfl rfl rfl rfl (n' (p' 3 rfl (g' [0,1] (T2 hx2) rfl rfl rfl rfl rfl rfl (n' (p' 4 rfl (g' [0,1] (ih3 _ _ _ _ hx29) rfl rfl rfl rfl rfl rfl (n' (S' (p' 2 rfl (qe' rfl trivial (C0.lenA _) (e' rfl (ci' rfl hh (fun hh=>?_) (fun hh=>?_))))))))))))))
   ·obtain ⟨x30,hx30,hh⟩:=bs' hh
    obtain ⟨x31,hx31,hh⟩:=bs' hh
    cases hh
    exact p' 3 rfl (g' [0,1] (K0 hx30) rfl rfl rfl rfl rfl rfl (n' (P' 4 rfl (g' [0,1] (ih3 _ _ _ _ hx31) rfl rfl rfl rfl rfl rfl (n' (re' (rt' rfl rfl rfl)))))))
   cases hh
   exact sk' (re' (rt' rfl rfl rfl))
  refine t' rfl (ci' rfl hh (fun hh=>?_) (fun hh=>?_))
  ·obtain ⟨x3,hx3,hh⟩:=bs' hh
   obtain ⟨x4,hx4,hh⟩:=bs' hh
   obtain ⟨x5,hx5,hh⟩:=bs' hh
   obtain ⟨c81,hh⟩:=X0 hh
   obtain ⟨x6,hx6,hh⟩:=bs' hh
   obtain ⟨x32,hx32,hh⟩:=bs' hh
   cases hh
   refine p' 3 rfl (g' [0,1] (K0 hx3) rfl rfl rfl rfl rfl rfl (n' (p' 3 rfl (g' [0,1] (T2 hx4) rfl rfl rfl rfl rfl rfl (n' (S' (AEx.draw hC 7 rfl rfl rfl (O' 5 rfl (Qc' (Ch hx5) rfl rfl (AQ.q hC rfl c81 (Qn' (g' [0,1] (K0 hx6) rfl rfl rfl rfl rfl rfl (n' ?_)))))))))))))
   exact p' 4 rfl (g' [0,1] (ih3 _ _ _ _ hx32) rfl rfl rfl rfl rfl rfl (n' (re' (rt' rfl rfl rfl))))
  refine t' rfl (ci' rfl hh (fun hh=>?_) (fun hh=>?_))
  ·obtain ⟨c82,hh⟩:=X0 hh
   obtain ⟨c83,hh⟩:=X0 hh
   obtain ⟨x7,hx7,hh⟩:=bs' hh
   obtain ⟨c84,hh⟩:=X0 hh
   obtain ⟨c85,hh⟩:=X0 hh
   obtain ⟨x8,hx8,hh⟩:=bs' hh
   obtain ⟨c86,hh⟩:=X0 hh
   obtain ⟨x9,hx9,hh⟩:=bs' hh
   obtain ⟨x33,hx33,hh⟩:=bs' hh
   cases hh
   refine S' (AEx.draw hC 16 rfl rfl rfl (O' 5 rfl (AQ.q hC rfl c82 (AQ.q hC rfl c83 (O' 2 rfl (Qc' (Ch hx7) rfl rfl (AQ.q hC rfl c84 (AQ.q hC rfl c85 (O' 2 rfl (Qc' (Ch hx8) rfl rfl (AQ.q hC rfl c86 (Qn' (g' [0,1] (K0 hx9) rfl rfl rfl rfl rfl rfl ?_)))))))))))))
   exact n' (p' 4 rfl (g' [0,1] (ih3 _ _ _ _ hx33) rfl rfl rfl rfl rfl rfl (n' (re' (rt' rfl rfl rfl)))))
  refine t' rfl (ci' rfl hh (fun hh=>?_) (fun hh=>?_))
  ·obtain ⟨x10,hx10,hh⟩:=bs' hh
   obtain ⟨x11,hx11,hh⟩:=bs' hh
   obtain ⟨x12,hx12,hh⟩:=bs' hh
   obtain ⟨x13,hx13,hh⟩:=bs' hh
   cases hh
   exact p' 3 rfl (g' [0,1] (T2 hx10) rfl rfl rfl rfl rfl rfl (n' (p' 3 rfl (g' [0,1] (K0 hx11) rfl rfl rfl rfl rfl rfl (n' (P' 3 rfl (g' [0,1] (T2 hx12) rfl rfl rfl rfl rfl rfl (n' (P' 3 rfl (g' [0,1] (K0 hx13) rfl rfl rfl rfl rfl rfl (n' (rn' rfl rfl rfl))))))))))))
  refine t' rfl (ci' rfl hh (fun hh=>?_) (fun hh=>?_))
  ·obtain ⟨x14,hx14,hh⟩:=bs' hh
   obtain ⟨c87,hh⟩:=X0 hh
   obtain ⟨c88,hh⟩:=X0 hh
   obtain ⟨x15,hx15,hh⟩:=bs' hh
   obtain ⟨x16,hx16,hh⟩:=bs' hh
   obtain ⟨x17,hx17,hh⟩:=bs' hh
   obtain ⟨x13,hx13,hh⟩:=bs' hh
   cases hh
   refine p' 3 rfl (g' [0,1] (T2 hx14) rfl rfl rfl rfl rfl rfl (n' (S' (AEx.draw hC 7 rfl rfl rfl (O' 5 rfl (AQ.q hC rfl c87 (AQ.q hC rfl c88 (Qn' (g' [0,1] (K0 hx15) rfl rfl rfl rfl rfl rfl (n' (p' 3 rfl (g' [0,1] (Px hx16) rfl rfl rfl rfl rfl rfl (n' ?_)))))))))))))
   exact P' 3 rfl (g' [0,1] (K0 hx17) rfl rfl rfl rfl rfl rfl (n' (P' 3 rfl (g' [0,1] (K0 hx13) rfl rfl rfl rfl rfl rfl (n' (rn' rfl rfl rfl))))))
  refine t' rfl (ci' rfl hh (fun hh=>?_) (fun hh=>?_))
  ·obtain ⟨x18,hx18,hh⟩:=bs' hh
   obtain ⟨c89,hh⟩:=X0 hh
   obtain ⟨x19,hx19,hh⟩:=bs' hh
   obtain ⟨x13,hx13,hh⟩:=bs' hh
   cases hh
   exact p' 3 rfl (g' [0,1] (T2 hx18) rfl rfl rfl rfl rfl rfl (n' (AEx.draw hC 6 rfl rfl rfl (O' 5 rfl (AQ.q hC rfl c89 (Qn' (g' [0,1] (K0 hx19) rfl rfl rfl rfl rfl rfl (n' (P' 3 rfl (g' [0,1] (K0 hx13) rfl rfl rfl rfl rfl rfl (n' (rn' rfl rfl rfl))))))))))))
  refine t' rfl (ci' rfl hh (fun hh=>?_) (fun hh=>?_))
  ·obtain ⟨x20,hx20,hh⟩:=bs' hh
   obtain ⟨x21,hx21,hh⟩:=bs' hh
   obtain ⟨x13,hx13,hh⟩:=bs' hh
   cases hh
   exact p' 3 rfl (g' [0,1] (K0 hx20) rfl rfl rfl rfl rfl rfl (n' (P' 3 rfl (g' [0,1] (T2 hx21) rfl rfl rfl rfl rfl rfl (n' (P' 3 rfl (g' [0,1] (K0 hx13) rfl rfl rfl rfl rfl rfl (n' (rn' rfl rfl rfl)))))))))
  refine t' rfl (ci' rfl hh (fun hh=>?_) (fun hh=>?_))
  ·obtain ⟨x22,hx22,hh⟩:=bs' hh
   obtain ⟨c90,hh⟩:=X0 hh
   obtain ⟨x23,hx23,hh⟩:=bs' hh
   obtain ⟨x13,hx13,hh⟩:=bs' hh
   cases hh
   exact AEx.draw hC 7 rfl rfl rfl (O' 5 rfl (Qc' (Ch hx22) rfl rfl (AQ.q hC rfl c90 (Qn' (g' [0,1] (K0 hx23) rfl rfl rfl rfl rfl rfl (n' (P' 3 rfl (g' [0,1] (K0 hx13) rfl rfl rfl rfl rfl rfl (n' (rn' rfl rfl rfl))))))))))
  refine t' rfl (ci' rfl hh (fun hh=>?_) (fun hh=>?_))
  ·obtain ⟨x24,hx24,hh⟩:=bs' hh
   exact p' 3 rfl (g' [0,1] (K0 hx24) rfl rfl rfl rfl rfl rfl (n' (p' 2 rfl (qe' rfl trivial (ei64.lenA _) (e' rfl (bk' (fw' (Kt hh) rfl rfl rfl)))))))
  obtain ⟨x13,hx13,hh⟩:=bs' hh
  cases hh
  exact sk' (P' 3 rfl (g' [0,1] (K0 hx13) rfl rfl rfl rfl rfl rfl (n' (rn' rfl rfl rfl))))
 ·intro g0 ih0 l margin b res hh
  obtain ⟨x1,hx1,hh⟩:=bs' hh
  obtain ⟨c8,hh⟩:=X0 hh
  obtain ⟨x2,hx2,hh⟩:=bs' hh
  obtain ⟨c9,hh⟩:=X0 hh
  obtain ⟨x3,hx3,hh⟩:=bs' hh
  cases hh
  exact O0.intro hC Tryz.func226 rfl rfl rfl (p' 3 rfl (g' [0,1] (K0 hx1) rfl rfl rfl rfl rfl rfl (n' (p' 3 rfl (qc' rfl c8 (g' [0,1] (ih0 _ _ _ _ hx2) rfl rfl rfl rfl rfl rfl (n' (P' 4 rfl (qc' rfl c9 (g' [0,1] (K0 hx3) rfl rfl rfl rfl rfl rfl (n' (rn' rfl rfl rfl))))))))))))
theorem Cm {l margin b res}(hh:C4 l margin b=some res):Sm l margin b res:=(Cv).1 _ _ _ _ hh
def Y2 (d:F0)(b12:Str)(v52:Int):Option Str:=
 if (decide (v52 < ((d.Vars).length:Int)))=true then
  idx d.Vars v52>>=fun x8=>
  I0 [9] b12>>=fun x9=>
  M6 x8 x9.2>>=fun x10=>
  Y2 d x10 (IntKind.i64.wrap (v52+1))
 else
  C4 d.Body [9] b12>>=fun x11=>
  I0 [9,114,101,116,117,114,110,32] x11>>=fun x12=>
  A1 d.Value x12.2>>=fun x13=>
  I0 [59,10,125,10] x13>>=fun x14=>
  some x14.2
 partial_fixpoint
abbrev Pj (d:F0)(b12:Str)(v52:Int)(res:Str):Prop:=LM C 80 2 Tryz.f163 [1,1,1,1,1,1,0,1,4] [(0,.ref 0 0),(3,.ref 2 0),(50,.d (.sl (F0.rows d.Vars))),(51,.d (.int .i64 ((d.Vars).length:Int))),(52,.d (.int .i64 v52))] [.bld 1 129,.buf 5 b12,.row (F0.cells d) 75] (Ret [.bld 1 129,.buf 5 res] (.tup []))
theorem Lo (d:F0):(∀ b12 v52 res,Y2 d b12 v52=some res→Pj d b12 v52 res):=by
 refine Y2.partial_correctness d _ ?_
 ·intro g0 ih0 b12 v52 res hh
  refine D1.unroll (t' rfl (S' (ci' rfl hh (fun hh=>?_) (fun hh=>?_))))
  ·obtain ⟨x8,hx8,hh⟩:=bs' hh
   obtain ⟨x9,hx9,hh⟩:=bs' hh
   obtain ⟨x10,hx10,hh⟩:=bs' hh
   refine sk' (S' (bk' (s' rfl rfl (i' rfl (T0 hx8) (F0.idx hx8) rfl (q' rfl (L0.nf hC rfl (L0.s hC rfl (n' (p' 3 rfl (g' [0,1] (K0 hx9) rfl rfl rfl rfl rfl rfl (n' (P' 2 rfl (g' [0,1] (Sk hx10) rfl rfl rfl rfl rfl rfl ?_)))))))))))))
   exact n' (T' rfl (lw' (ih0 _ _ _ hh) rfl rfl rfl))
  obtain ⟨x11,hx11,hh⟩:=bs' hh
  obtain ⟨x12,hx12,hh⟩:=bs' hh
  obtain ⟨x13,hx13,hh⟩:=bs' hh
  obtain ⟨x14,hx14,hh⟩:=bs' hh
  cases hh
  exact ex' (p' 3 rfl (g' [0,1] (Cm hx11) rfl rfl rfl rfl rfl rfl (n' (p' 3 rfl (g' [0,1] (K0 hx12) rfl rfl rfl rfl rfl rfl (n' (p' 3 rfl (g' [0,1] (T2 hx13) rfl rfl rfl rfl rfl rfl (n' (P' 3 rfl (g' [0,1] (K0 hx14) rfl rfl rfl rfl rfl rfl (n' (rn' rfl rfl rfl)))))))))))))
theorem Jp {d b12 v52 res}(hh:Y2 d b12 v52=some res):Pj d b12 v52 res:=(Lo d) _ _ _ hh
mutual
def Z2 (d:F0)(b1:Str)(v19:Int):Option Str:=
 if (decide (v19 < ((d.Params).length:Int)))=true then
  idx d.Params v19>>=fun x2=>
  if (decide (v19 > 0))=true then
   I0 [44,32] b1>>=fun x4=>
   X6 d x4.2 x2 v19
  else
   X6 d b1 x2 v19
 else
  I0 [41,58,32] b1>>=fun x5=>
  M3 d.TypeV x5.2>>=fun x6=>
  I0 [32,123,10] x6>>=fun x7=>
  Y2 d x7.2 0
 partial_fixpoint
def X6 (d:F0)(b11:Str)(x2:F0)(v191:Int):Option Str:=
 K3 x2.Name x2.TypeV b11>>=fun x3=>
 Z2 d x3 (IntKind.i64.wrap (v191+1))
 partial_fixpoint
end
abbrev Qj (d:F0)(b1:Str)(v19:Int)(res:Str):Prop:=LM C 80 2 Tryz.f163 [1,1,0,1,4] [(0,.ref 0 0),(3,.ref 2 0),(17,.d (.sl (F0.rows d.Params))),(18,.d (.int .i64 ((d.Params).length:Int))),(19,.d (.int .i64 v19))] [.bld 1 129,.buf 5 b1,.row (F0.cells d) 75] (Ret [.bld 1 129,.buf 5 res] (.tup []))
abbrev Hq (d:F0)(b11:Str)(x2:F0)(v191:Int)(res:Str):Prop:=JM C 80 2 Tryz.f163 [1,1,0,1,4,5,1,1,0,4,1,1] [(0,.ref 0 0),(3,.ref 2 0),(5,.ref 3 0),(17,.d (.sl (F0.rows d.Params))),(18,.d (.int .i64 ((d.Params).length:Int))),(19,.d (.int .i64 v191))] [.bld 1 129,.buf 5 b11,.row (F0.cells d) 75,.row (F0.cells x2) 75] (Ret [.bld 1 129,.buf 5 res] (.tup []))
theorem Mo (d:F0):(∀ b1 v19 res,Z2 d b1 v19=some res→Qj d b1 v19 res)∧(∀ b11 x2 v191 res,X6 d b11 x2 v191=some res→Hq d b11 x2 v191 res):=by
 refine Z2.mutual_partial_correctness d _ _ ?_ ?_
 ·intro g1 ih1 b1 v19 res hh
  refine D1.unroll (t' rfl (S' (ci' rfl hh (fun hh=>?_) (fun hh=>?_))))
  ·obtain ⟨x2,hx2,hh⟩:=bs' hh
   refine sk' (S' (bk' (p' 1 rfl (i' rfl (T0 hx2) (F0.idx hx2) rfl (q' rfl (L0.nf hC rfl (q' rfl (L0.s hC rfl (n' (S' (t' rfl (ci' rfl hh (fun hh=>?_) (fun hh=>?_)))))))))))))
   ·obtain ⟨x4,hx4,hh⟩:=bs' hh
    exact P' 3 rfl (g' [0,1] (K0 hx4) rfl rfl rfl rfl rfl rfl (n' (ew' (ih1 _ _ _ _ hh) rfl rfl rfl)))
   exact sk' (ew' (ih1 _ _ _ _ hh) rfl rfl rfl)
  obtain ⟨x5,hx5,hh⟩:=bs' hh
  obtain ⟨x6,hx6,hh⟩:=bs' hh
  obtain ⟨x7,hx7,hh⟩:=bs' hh
  refine ex' (p' 3 rfl (g' [0,1] (K0 hx5) rfl rfl rfl rfl rfl rfl (n' (p' 3 rfl (g' [0,1] (Oj hx6) rfl rfl rfl rfl rfl rfl (n' (p' 3 rfl (g' [0,1] (K0 hx7) rfl rfl rfl rfl rfl rfl (n' (S' (p' 2 rfl (qe' rfl trivial (F0.lenA _) (e' rfl ?_)))))))))))))
  exact bk' (fw' (Jp hh) rfl rfl rfl)
 ·intro g0 ih0 b11 x2 v191 res hh
  obtain ⟨x3,hx3,hh⟩:=bs' hh
  exact P' 5 rfl (g' [0,1] (L6 hx3) rfl rfl rfl rfl rfl rfl (n' (T' rfl (lw' (ih0 _ _ _ hh) rfl rfl rfl))))
theorem Kp {d b1 v19 res}(hh:Z2 d b1 v19=some res):Qj d b1 v19 res:=(Mo d).1 _ _ _ hh
def B9 (d:F0)(b:Str):Option Str:=
 if (decide (5+d.Name.length≤maxLen))=true then
  if (decide (([102,117,110,99,32]++d.Name).length+1≤maxLen))=true then
   I0 (([102,117,110,99,32]++d.Name)++[40]) b>>=fun x1=>
   Z2 d x1.2 0
  else none
 else none
theorem Ds {d b res}(hh:B9 d b=some res):O0 C 163 [.ref 0 0,.agg (F0.cells d)] [.bld 1 129,.buf 5 b] (Ret [.bld 1 129,.buf 5 res] (.tup [])):=by
 unfold B9 at hh
 obtain ⟨c19,hh⟩:=X0 hh
 obtain ⟨c20,hh⟩:=X0 hh
 obtain ⟨x1,hx1,hh⟩:=bs' hh
 refine O0.intro hC Tryz.func163 rfl rfl rfl (s' rfl rfl (L0.n hC rfl (n' (S' (AEx.draw hC 7 rfl rfl rfl (O' 5 rfl (AQ.q hC rfl c19 (AQ.q hC rfl c20 (Qn' (g' [0,1] (K0 hx1) rfl rfl rfl rfl rfl rfl (n' (S' (p' 2 rfl ?_)))))))))))))
 exact qe' rfl trivial (F0.lenA _) (e' rfl (bk' (fw' (Kp hh) rfl rfl rfl)))
def Xd (d:F0)(b:Str):Option Str:=
 if (d.Kind == 4)=true then
  M6 d b>>=fun x1=>
  some x1
 else
  if (d.Kind == 6)=true then
   B9 d b>>=fun x2=>
   some x2
  else
   if (d.Kind == 0)=true then
    if (decide (5+d.Name.length≤maxLen))=true then
     if (decide (([116,121,112,101,32]++d.Name).length+3≤maxLen))=true then
      I0 (([116,121,112,101,32]++d.Name)++[32,61,32]) b>>=fun x3=>
      M3 d.TypeV x3.2>>=fun x4=>
      I0 [59,10] x4>>=fun x5=>
      some x5.2
     else none
    else none
   else
    if (d.Kind == 1)=true then
     I0 [115,101,99,114,101,116,32] b>>=fun x6=>
     K3 d.Name d.TypeV x6.2>>=fun x7=>
     I0 [59,10] x7>>=fun x5=>
     some x5.2
    else
     if (d.Kind == 2)=true then
      I0 [112,117,98,108,105,99,32] b>>=fun x8=>
      K3 d.Name d.TypeV x8.2>>=fun x9=>
      I0 [59,10] x9>>=fun x5=>
      some x5.2
     else
      if (d.Kind == 3)=true then
       I0 [114,97,110,100,111,109,32] b>>=fun x10=>
       K3 d.Name d.TypeV x10.2>>=fun x11=>
       I0 [59,10] x11>>=fun x5=>
       some x5.2
      else
       if (d.Kind == 5)=true then
        I0 [104,97,116,99,104,32] b>>=fun x12=>
        K3 d.Name d.TypeV x12.2>>=fun x13=>
        I0 [32,61,32] x13>>=fun x14=>
        A1 d.Value x14.2>>=fun x15=>
        I0 [59,10] x15>>=fun x5=>
        some x5.2
       else
        I0 [59,10] b>>=fun x5=>
        some x5.2
theorem Yx {d b res}(hh:Xd d b=some res):O0 C 85 [.ref 0 0,.agg (F0.cells d)] [.bld 1 129,.buf 5 b] (Ret [.bld 1 129,.buf 5 res] (.tup [])):=by
 unfold Xd at hh
 refine O0.intro hC Tryz.func85 rfl rfl rfl (s' rfl rfl (L0.n hC rfl (n' (S' (t' rfl (bk' (t' rfl (ci' rfl hh (fun hh=>?_) (fun hh=>?_)))))))))
 ·obtain ⟨x1,hx1,hh⟩:=bs' hh
  cases hh
  exact p' 2 rfl (g' [0,1] (Sk hx1) rfl rfl rfl rfl rfl rfl (n' (re' (rt' rfl rfl rfl))))
 refine t' rfl (ci' rfl hh (fun hh=>?_) (fun hh=>?_))
 ·obtain ⟨x2,hx2,hh⟩:=bs' hh
  cases hh
  exact p' 2 rfl (g' [0,1] (Ds hx2) rfl rfl rfl rfl rfl rfl (n' (re' (rt' rfl rfl rfl))))
 refine t' rfl (ci' rfl hh (fun hh=>?_) (fun hh=>?_))
 ·obtain ⟨c9,hh⟩:=X0 hh
  obtain ⟨c10,hh⟩:=X0 hh
  obtain ⟨x3,hx3,hh⟩:=bs' hh
  obtain ⟨x4,hx4,hh⟩:=bs' hh
  obtain ⟨x5,hx5,hh⟩:=bs' hh
  cases hh
  exact S' (AEx.draw hC 7 rfl rfl rfl (O' 5 rfl (AQ.q hC rfl c9 (AQ.q hC rfl c10 (Qn' (g' [0,1] (K0 hx3) rfl rfl rfl rfl rfl rfl (n' (P' 3 rfl (g' [0,1] (Oj hx4) rfl rfl rfl rfl rfl rfl (n' (P' 3 rfl (g' [0,1] (K0 hx5) rfl rfl rfl rfl rfl rfl (n' (rn' rfl rfl rfl))))))))))))))
 refine t' rfl (ci' rfl hh (fun hh=>?_) (fun hh=>?_))
 ·obtain ⟨x6,hx6,hh⟩:=bs' hh
  obtain ⟨x7,hx7,hh⟩:=bs' hh
  obtain ⟨x5,hx5,hh⟩:=bs' hh
  cases hh
  exact p' 3 rfl (g' [0,1] (K0 hx6) rfl rfl rfl rfl rfl rfl (n' (P' 5 rfl (g' [0,1] (L6 hx7) rfl rfl rfl rfl rfl rfl (n' (P' 3 rfl (g' [0,1] (K0 hx5) rfl rfl rfl rfl rfl rfl (n' (rn' rfl rfl rfl)))))))))
 refine t' rfl (ci' rfl hh (fun hh=>?_) (fun hh=>?_))
 ·obtain ⟨x8,hx8,hh⟩:=bs' hh
  obtain ⟨x9,hx9,hh⟩:=bs' hh
  obtain ⟨x5,hx5,hh⟩:=bs' hh
  cases hh
  exact p' 3 rfl (g' [0,1] (K0 hx8) rfl rfl rfl rfl rfl rfl (n' (P' 5 rfl (g' [0,1] (L6 hx9) rfl rfl rfl rfl rfl rfl (n' (P' 3 rfl (g' [0,1] (K0 hx5) rfl rfl rfl rfl rfl rfl (n' (rn' rfl rfl rfl)))))))))
 refine t' rfl (ci' rfl hh (fun hh=>?_) (fun hh=>?_))
 ·obtain ⟨x10,hx10,hh⟩:=bs' hh
  obtain ⟨x11,hx11,hh⟩:=bs' hh
  obtain ⟨x5,hx5,hh⟩:=bs' hh
  cases hh
  exact p' 3 rfl (g' [0,1] (K0 hx10) rfl rfl rfl rfl rfl rfl (n' (P' 5 rfl (g' [0,1] (L6 hx11) rfl rfl rfl rfl rfl rfl (n' (P' 3 rfl (g' [0,1] (K0 hx5) rfl rfl rfl rfl rfl rfl (n' (rn' rfl rfl rfl)))))))))
 refine t' rfl (ci' rfl hh (fun hh=>?_) (fun hh=>?_))
 ·obtain ⟨x12,hx12,hh⟩:=bs' hh
  obtain ⟨x13,hx13,hh⟩:=bs' hh
  obtain ⟨x14,hx14,hh⟩:=bs' hh
  obtain ⟨x15,hx15,hh⟩:=bs' hh
  obtain ⟨x5,hx5,hh⟩:=bs' hh
  cases hh
  refine p' 3 rfl (g' [0,1] (K0 hx12) rfl rfl rfl rfl rfl rfl (n' (p' 5 rfl (g' [0,1] (L6 hx13) rfl rfl rfl rfl rfl rfl (n' (p' 3 rfl (g' [0,1] (K0 hx14) rfl rfl rfl rfl rfl rfl (n' (P' 3 rfl (g' [0,1] (T2 hx15) rfl rfl rfl rfl rfl rfl (n' (P' 3 rfl (g' [0,1] (K0 hx5) rfl rfl rfl rfl rfl rfl ?_)))))))))))))
  exact n' (rn' rfl rfl rfl)
 obtain ⟨x5,hx5,hh⟩:=bs' hh
 cases hh
 exact sk' (P' 3 rfl (g' [0,1] (K0 hx5) rfl rfl rfl rfl rfl rfl (n' (rn' rfl rfl rfl))))
def E9 (p:Q0)(b2:Str)(v18:Int):Option (Str×Int):=
 if (decide (v18 < ((p.Decls).length:Int)))=true then
  idx p.Decls v18>>=fun x2=>
  Xd x2 b2>>=fun x3=>
  E9 p x3 (IntKind.i64.wrap (v18+1))
 else
  I0 [98,101,103,105,110,10] b2>>=fun x4=>
  C4 p.Body [9] x4.2>>=fun x5=>
  I0 [101,110,100,10] x5>>=fun x6=>
  Q9 x6.2>>=fun x7=>
  some (x7.1,x7.2)
 partial_fixpoint
abbrev Ls (p:Q0)(b2:Str)(v18:Int)(res:Str×Int):Prop:=LM C 42 0 Tryz.f38 [1,1,1,0,1,4] [(1,.ref 0 0),(5,.ref 1 0),(16,.d (.sl (F0.rows p.Decls))),(17,.d (.int .i64 ((p.Decls).length:Int))),(18,.d (.int .i64 v18))] [.row (Q0.cells p) 25,.bld 2 129,.buf 5 b2] (Ret [] (.tup [.d (.str res.1),.d (.int .i64 res.2)]))
theorem B12 (p:Q0):(∀ b2 v18 res,E9 p b2 v18=some res→Ls p b2 v18 res):=by
 refine E9.partial_correctness p _ ?_
 ·intro g0 ih0 b2 v18 res hh
  refine D1.unroll (t' rfl (S' (ci' rfl hh (fun hh=>?_) (fun hh=>?_))))
  ·obtain ⟨x2,hx2,hh⟩:=bs' hh
   obtain ⟨x3,hx3,hh⟩:=bs' hh
   exact sk' (S' (bk' (s' rfl rfl (i' rfl (T0 hx2) (F0.idx hx2) rfl (q' rfl (L0.nf hC rfl (L0.s hC rfl (n' (P' 2 rfl (g' [1,2] (Yx hx3) rfl rfl rfl rfl rfl rfl (n' (T' rfl (lw' (ih0 _ _ _ hh) rfl rfl rfl)))))))))))))
  obtain ⟨x4,hx4,hh⟩:=bs' hh
  obtain ⟨x5,hx5,hh⟩:=bs' hh
  obtain ⟨x6,hx6,hh⟩:=bs' hh
  obtain ⟨x7,hx7,hh⟩:=bs' hh
  cases hh
  exact ex' (p' 3 rfl (g' [1,2] (K0 hx4) rfl rfl rfl rfl rfl rfl (n' (p' 3 rfl (g' [1,2] (Cm hx5) rfl rfl rfl rfl rfl rfl (n' (p' 3 rfl (g' [1,2] (K0 hx6) rfl rfl rfl rfl rfl rfl (n' (p' 1 rfl (g' [1,2] (Pm hx7) rfl rfl rfl rfl rfl rfl (e' rfl (re' (rt' rfl rfl rfl))))))))))))))
theorem V13 {p b2 v18 res}(hh:E9 p b2 v18=some res):Ls p b2 v18 res:=(B12 p) _ _ _ hh
def Ll (p:Q0):Option (Str×Int):=
 Df p>>=fun x1=>
 if (x1 != 0)=true then
  some ([],x1)
 else
  E9 p [] 0
theorem W18 {p res}(hh:Ll p=some res):O0 C 38 [.agg (Q0.cells p)] [] (Ret [] (.tup [.d (.str res.1),.d (.int .i64 res.2)])):=by
 unfold Ll at hh
 obtain ⟨x1,hx1,hh⟩:=bs' hh
 refine O0.intro hC Tryz.func38 rfl rfl rfl (s' rfl rfl (L0.n hC rfl (e' rfl (S' (p' 1 rfl (c' (Bx hx1) rfl rfl (e' rfl (t' rfl (ci' rfl hh (fun hh=>?_) (fun hh=>?_))))))))))
 ·cases hh
  exact t' rfl (re' (rt' rfl rfl rfl))
 exact sk' (s' rfl rfl (L0.newB 5 rfl rfl rfl J1m rfl rfl (e' rfl (S' (p' 2 rfl (qe' rfl trivial (F0.lenA _) (e' rfl (bk' (fw' (V13 hh) rfl rfl rfl)))))))))
def Tm (p:Q0):Option (Int×Int):=
 Ma p>>=fun x1=>
 D4 x1>>=fun x2=>
 if (x2 != 0)=true then
  some (0,x2)
 else
  some (x1.nodes,0)
theorem D1a {p res}(hh:Tm p=some res):O0 C 39 [.agg (Q0.cells p)] [] (Ret [] (.tup [.d (.int .i64 res.1),.d (.int .i64 res.2)])):=by
 unfold Tm at hh
 obtain ⟨x1,hx1,hh⟩:=bs' hh
 obtain ⟨x2,hx2,hh⟩:=bs' hh
 refine O0.intro hC Tryz.func39 rfl rfl rfl (s' rfl rfl (L0.n hC rfl (e' rfl (p' 1 rfl (g' [] (Ks hx1) rfl rfl rfl rfl rfl rfl (e' rfl (S' (p' 1 rfl (g' [2] (Mj hx2) rfl rfl rfl rfl rfl rfl (e' rfl (t' rfl (ci' rfl hh (fun hh=>?_) (fun hh=>?_)))))))))))))
 ·cases hh
  exact t' rfl (re' (rt' rfl rfl rfl))
 cases hh
 exact sk' (t' rfl (re' (rt' rfl rfl rfl)))
def Ni:Option Bool:=
 Hl 1>>=fun x1=>
 Hl 2>>=fun x2=>
 Sb 8 [x1,x2]>>=fun x3=>
 Fa [120]>>=fun x4=>
 Sb 6 [x4]>>=fun x5=>
 Sb 10 [x3,x5]>>=fun x6=>
 Ia x6>>=fun x7=>
 Fa [97]>>=fun x8=>
 Fa [98]>>=fun x9=>
 Fa [99]>>=fun x10=>
 Sb 9 [x9,x10]>>=fun x11=>
 Sb 9 [x8,x11]>>=fun x12=>
 Ia x12>>=fun x13=>
 Fa [97]>>=fun x14=>
 Fa [98]>>=fun x15=>
 Sb 9 [x14,x15]>>=fun x16=>
 Fa [99]>>=fun x17=>
 Sb 9 [x16,x17]>>=fun x18=>
 Ia x18>>=fun x19=>
 Fa [112,105,110]>>=fun x20=>
 Ll (Q0.mk [(F0.mk 1 [112,105,110] (D0.mk 1 0 9 0 [] [] []) 0 (A0.mk 0 0 [] []) [] [] []),(F0.mk 4 [120] (D0.mk 0 0 0 0 [] [] []) 1 (A0.mk 0 0 [] []) [] [] [])] [(C0.mk 3 (A0.mk 0 0 [] []) x20 [] [] 0 0 0 [] [] [])])>>=fun x21=>
 Tm (Q0.mk [(F0.mk 1 [112,105,110] (D0.mk 1 0 9 0 [] [] []) 0 (A0.mk 0 0 [] []) [] [] []),(F0.mk 4 [120] (D0.mk 0 0 0 0 [] [] []) 1 (A0.mk 0 0 [] []) [] [] [])] [(C0.mk 3 (A0.mk 0 0 [] []) x20 [] [] 0 0 0 [] [] [])])>>=fun x22=>
 if (bif (bif (bif (bif (bif (x7.2 != 0) then true else (x13.2 != 0)) then true else (x19.2 != 0)) then true else (x21.2 != 0)) then true else (x22.2 != 0)) then true else (x22.1 != 6))=true then
  some false
 else
  (if (bif (bif (bif (x7.1 == [40,49,32,43,32,50,41,32,42,32,45,120]) then (x13.1 == [97,32,45,32,40,98,32,45,32,99,41]) else false) then (x19.1 == [97,32,45,32,98,32,45,32,99]) else false) then (x21.1 == [115,101,99,114,101,116,32,112,105,110,58,32,105,110,116,91,48,46,46,57,93,59,10,118,97,114,32,120,58,32,98,111,111,108,32,61,32,116,114,117,101,59,10,98,101,103,105,110,10,9,111,117,116,112,117,116,32,112,105,110,59,10,101,110,100,10]) else false)=true then Hl (-1) else some default)>>=fun x23=>
  (if (bif (bif (bif (x7.1 == [40,49,32,43,32,50,41,32,42,32,45,120]) then (x13.1 == [97,32,45,32,40,98,32,45,32,99,41]) else false) then (x19.1 == [97,32,45,32,98,32,45,32,99]) else false) then (x21.1 == [115,101,99,114,101,116,32,112,105,110,58,32,105,110,116,91,48,46,46,57,93,59,10,118,97,114,32,120,58,32,98,111,111,108,32,61,32,116,114,117,101,59,10,98,101,103,105,110,10,9,111,117,116,112,117,116,32,112,105,110,59,10,101,110,100,10]) else false)=true then He x23 else some default)>>=fun x24=>
  some (bif (bif (bif (bif (x7.1 == [40,49,32,43,32,50,41,32,42,32,45,120]) then (x13.1 == [97,32,45,32,40,98,32,45,32,99,41]) else false) then (x19.1 == [97,32,45,32,98,32,45,32,99]) else false) then (x21.1 == [115,101,99,114,101,116,32,112,105,110,58,32,105,110,116,91,48,46,46,57,93,59,10,118,97,114,32,120,58,32,98,111,111,108,32,61,32,116,114,117,101,59,10,98,101,103,105,110,10,9,111,117,116,112,117,116,32,112,105,110,59,10,101,110,100,10]) else false) then (x24 == 3) else false)
theorem E1a {res}(hh:Ni=some res):O0 C 12 [] [] (Ret [] (.d (.bool res))):=by
 unfold Ni at hh
 obtain ⟨x1,hx1,hh⟩:=bs' hh
 obtain ⟨x2,hx2,hh⟩:=bs' hh
 obtain ⟨x3,hx3,hh⟩:=bs' hh
 obtain ⟨x4,hx4,hh⟩:=bs' hh
 obtain ⟨x5,hx5,hh⟩:=bs' hh
 obtain ⟨x6,hx6,hh⟩:=bs' hh
 obtain ⟨x7,hx7,hh⟩:=bs' hh
 obtain ⟨x8,hx8,hh⟩:=bs' hh
 obtain ⟨x9,hx9,hh⟩:=bs' hh
 obtain ⟨x10,hx10,hh⟩:=bs' hh
 obtain ⟨x11,hx11,hh⟩:=bs' hh
 obtain ⟨x12,hx12,hh⟩:=bs' hh
 obtain ⟨x13,hx13,hh⟩:=bs' hh
 obtain ⟨x14,hx14,hh⟩:=bs' hh
 obtain ⟨x15,hx15,hh⟩:=bs' hh
 obtain ⟨x16,hx16,hh⟩:=bs' hh
 obtain ⟨x17,hx17,hh⟩:=bs' hh
 obtain ⟨x18,hx18,hh⟩:=bs' hh
 obtain ⟨x19,hx19,hh⟩:=bs' hh
 obtain ⟨x20,hx20,hh⟩:=bs' hh
 obtain ⟨x21,hx21,hh⟩:=bs' hh
 obtain ⟨x22,hx22,hh⟩:=bs' hh
 refine O0.intro hC Tryz.func12 rfl rfl rfl (t' rfl (s' rfl rfl (c' (Mu hx1) rfl rfl (c' (Mu hx2) rfl rfl (L0.be hC rfl (A0.rows_map [x1,x2]).symm (L0.cl rfl (Fg hx3) ⟨.rfl,.full,trivial⟩ rfl (c' (Fd hx4) rfl rfl (L0.be hC rfl (A0.rows_map [x4]).symm (L0.cl rfl (Fg hx5) ⟨.rfl,.full,trivial⟩ rfl (L0.be hC rfl (A0.rows_map [x3,x5]).symm ?_))))))))))
 refine L0.cl rfl (Fg hx6) ⟨.rfl,.full,trivial⟩ rfl (c' (Yk hx7) rfl rfl (e' rfl (s' rfl rfl (c' (Fd hx8) rfl rfl (c' (Fd hx9) rfl rfl (c' (Fd hx10) rfl rfl (L0.be hC rfl (A0.rows_map [x9,x10]).symm (L0.cl rfl (Fg hx11) ⟨.rfl,.full,trivial⟩ rfl (L0.be hC rfl (A0.rows_map [x8,x11]).symm ?_)))))))))
 refine L0.cl rfl (Fg hx12) ⟨.rfl,.full,trivial⟩ rfl (c' (Yk hx13) rfl rfl (e' rfl (s' rfl rfl (c' (Fd hx14) rfl rfl (c' (Fd hx15) rfl rfl (L0.be hC rfl (A0.rows_map [x14,x15]).symm (L0.cl rfl (Fg hx16) ⟨.rfl,.full,trivial⟩ rfl (c' (Fd hx17) rfl rfl (L0.be hC rfl (A0.rows_map [x16,x17]).symm ?_)))))))))
 refine L0.cl rfl (Fg hx18) ⟨.rfl,.full,trivial⟩ rfl (c' (Yk hx19) rfl rfl (e' rfl (p' 3 rfl (L0.be hC rfl (F0.rows_map [(F0.mk 1 [112,105,110] (D0.mk 1 0 9 0 [] [] []) 0 (A0.mk 0 0 [] []) [] [] []),(F0.mk 4 [120] (D0.mk 0 0 0 0 [] [] []) 1 (A0.mk 0 0 [] []) [] [] [])]).symm (c' (Fd hx20) rfl rfl (q' rfl ?_))))))
 refine L0.be hC rfl (C0.rows_map [(C0.mk 3 (A0.mk 0 0 [] []) x20 [] [] 0 0 0 [] [] [])]).symm (q' rfl (L0.nf hC rfl (L0.s hC rfl (n' (p' 1 rfl (L0.cl rfl (W18 hx21) ⟨(.aggL ⟨.full,.full,trivial⟩),trivial⟩ rfl (e' rfl (p' 1 rfl (L0.cl rfl (D1a hx22) ⟨(.aggL ⟨.full,.full,trivial⟩),trivial⟩ rfl (e' rfl (S' (sg' 22 rfl (G' 4 rfl ?_)))))))))))))
 refine a1' rfl (po' rfl (G' 2 rfl (a1' rfl (po' rfl (G' 2 rfl (a1' rfl (po' rfl (G' 2 rfl (a1' rfl (po' rfl (G' 2 rfl (a1' rfl (po' rfl ?_)))))))))))))
 refine an' (n' (ci' rfl hh (fun hh=>?_) (fun hh=>?_)))
 ·cases hh
  exact t' rfl (re' (rt' rfl rfl rfl))
 obtain ⟨x23,hx23,hh⟩:=bs' hh
 obtain ⟨x24,hx24,hh⟩:=bs' hh
 cases hh
 refine sk' (sg' 20 rfl (G' 4 rfl (a1' rfl (pa' rfl (G' 2 rfl (a1' rfl (pa' rfl (G' 2 rfl (a1' rfl (pa' rfl (a0' rfl (AG.c rfl rfl (fun _=>trivial) (fun hw=>Mu (W1 hw hx23)) (AG.c rfl rfl (fun hg=>⟨hg,trivial⟩) (fun hw=>Np (W1 hw hx24)) ?_)))))))))))))
 exact a1' rfl (pa' rfl (a0' rfl (an' (n' (re' (rt' rfl rfl rfl))))))
mutual
def Q8 (t:D0)(left:Int):Option Int:=
 Tc t (IntKind.i64.wrap ((IntKind.i64.wrap (left - 1)) - (IntKind.i64.wrap (Int.tdiv ((t.Name).length:Int) 16)))) 0
 partial_fixpoint
def Tc (t:D0)(left1:Int)(i:Int):Option Int:=
 if (bif (decide (i < ((t.Names).length:Int))) then (decide (left1≥0)) else false)=true then
  idx t.Names i>>=fun x1=>
  Tc t (IntKind.i64.wrap ((IntKind.i64.wrap (left1 - 1)) - (IntKind.i64.wrap (Int.tdiv ((x1).length:Int) 16)))) (IntKind.i64.wrap (i+1))
 else
  Uc t left1 0
 partial_fixpoint
def Uc (t:D0)(left2:Int)(i1:Int):Option Int:=
 if (bif (decide (i1 < ((t.Of).length:Int))) then (decide (left2≥0)) else false)=true then
  idx t.Of i1>>=fun x2=>
  Q8 x2 left2>>=fun x3=>
  Uc t x3 (IntKind.i64.wrap (i1+1))
 else
  some left2
 partial_fixpoint
end
abbrev Dv (t:D0)(left:Int)(res:Int):Prop:=O0 C 75 [.agg (D0.cells t),.d (.int .i64 left)] [] (Ret [] (.d (.int .i64 res)))
abbrev C12 (t:D0)(left1:Int)(i:Int)(res:Int):Prop:=LM C 54 0 Tryz.f75 [1,1,0,1,4] [(1,.d (.int .i64 left1)),(2,.ref 0 0),(5,.d (.int .i64 i))] [.row (D0.cells t) 48] (Ret [] (.d (.int .i64 res)))
abbrev D12 (t:D0)(left2:Int)(i1:Int)(res:Int):Prop:=LM C 54 0 Tryz.f75 [1,1,1,0,1,4] [(1,.d (.int .i64 left2)),(2,.ref 0 0),(6,.d (.int .i64 i1))] [.row (D0.cells t) 48] (Ret [] (.d (.int .i64 res)))
theorem W13:(∀ t left res,Q8 t left=some res→Dv t left res)∧(∀ t left1 i res,Tc t left1 i=some res→C12 t left1 i res)∧(∀ t left2 i1 res,Uc t left2 i1=some res→D12 t left2 i1 res):=by
 refine Q8.mutual_partial_correctness _ _ _ ?_ ?_ ?_
 ·intro g1 ih1 t left res hh
  exact O0.intro hC Tryz.func75 rfl rfl rfl (s' rfl rfl (L0.n hC rfl (e' rfl (p' 5 rfl (qc' rfl (by decide) (e' rfl (S' (t' rfl (bk' (fw' (ih1 _ _ _ _ hh) rfl rfl rfl))))))))))
 ·intro g1 g2 ih1 ih2 t left1 i res hh
  refine D1.unroll (S' (sg' 9 rfl (G' 3 rfl (AG.qe hC rfl (fun hg=>⟨trivial,trivial⟩) (estr.lenA _) (G' 3 rfl (a1' rfl (pa' rfl (an' (n' (ci' rfl hh (fun hh=>?_) (fun hh=>?_)))))))))))
  ·obtain ⟨x1,hx1,hh⟩:=bs' hh
   exact sk' (S' (bk' (P' 5 rfl (i' rfl (T0 hx1) (estr.idx hx1) rfl (o' 2 rfl (qc' rfl (by decide) (e' rfl (T' rfl (lw' (ih1 _ _ _ _ hh) rfl rfl rfl)))))))))
  exact ex' (S' (t' rfl (bk' (fw' (ih2 _ _ _ _ hh) rfl rfl rfl))))
 ·intro g0 g2 ih0 ih2 t left2 i1 res hh
  refine D1.unroll (S' (sg' 9 rfl (G' 3 rfl (AG.qe hC rfl (fun hg=>⟨trivial,trivial⟩) (D0.lenA _) (G' 3 rfl (a1' rfl (pa' rfl (an' (n' (ci' rfl hh (fun hh=>?_) (fun hh=>?_)))))))))))
  ·obtain ⟨x2,hx2,hh⟩:=bs' hh
   obtain ⟨x3,hx3,hh⟩:=bs' hh
   exact sk' (S' (bk' (P' 3 rfl (i' rfl (T0 hx2) (D0.idx hx2) rfl (o' 2 rfl (c' (ih0 _ _ _ hx3) rfl rfl (e' rfl (T' rfl (lw' (ih2 _ _ _ _ hh) rfl rfl rfl)))))))))
  cases hh
  exact ex' (t' rfl (re' (rt' rfl rfl rfl)))
theorem S15 {t left res}(hh:Q8 t left=some res):Dv t left res:=(W13).1 _ _ _ hh
mutual
def V5 (e:A0)(left:Int):Option Int:=
 Wc e (IntKind.i64.wrap ((IntKind.i64.wrap (left - 1)) - (IntKind.i64.wrap (Int.tdiv ((e.Name).length:Int) 16)))) 0
 partial_fixpoint
def Wc (e:A0)(left1:Int)(i:Int):Option Int:=
 if (bif (decide (i < ((e.Kids).length:Int))) then (decide (left1≥0)) else false)=true then
  idx e.Kids i>>=fun x1=>
  V5 x1 left1>>=fun x2=>
  Wc e x2 (IntKind.i64.wrap (i+1))
 else
  some left1
 partial_fixpoint
end
abbrev Ev (e:A0)(left:Int)(res:Int):Prop:=O0 C 72 [.agg (A0.cells e),.d (.int .i64 left)] [] (Ret [] (.d (.int .i64 res)))
abbrev E12 (e:A0)(left1:Int)(i:Int)(res:Int):Prop:=LM C 32 0 Tryz.f72 [1,1,0,1,4] [(1,.d (.int .i64 left1)),(2,.ref 0 0),(5,.d (.int .i64 i))] [.row (A0.cells e) 40] (Ret [] (.d (.int .i64 res)))
theorem X13:(∀ e left res,V5 e left=some res→Ev e left res)∧(∀ e left1 i res,Wc e left1 i=some res→E12 e left1 i res):=by
 refine V5.mutual_partial_correctness _ _ ?_ ?_
 ·intro g1 ih1 e left res hh
  exact O0.intro hC Tryz.func72 rfl rfl rfl (s' rfl rfl (L0.n hC rfl (e' rfl (p' 5 rfl (qc' rfl (by decide) (e' rfl (S' (t' rfl (bk' (fw' (ih1 _ _ _ _ hh) rfl rfl rfl))))))))))
 ·intro g0 g1 ih0 ih1 e left1 i res hh
  refine D1.unroll (S' (sg' 9 rfl (G' 3 rfl (AG.qe hC rfl (fun hg=>⟨trivial,trivial⟩) (A0.lenA _) (G' 3 rfl (a1' rfl (pa' rfl (an' (n' (ci' rfl hh (fun hh=>?_) (fun hh=>?_)))))))))))
  ·obtain ⟨x1,hx1,hh⟩:=bs' hh
   obtain ⟨x2,hx2,hh⟩:=bs' hh
   exact sk' (S' (bk' (P' 3 rfl (i' rfl (T0 hx1) (A0.idx hx1) rfl (o' 2 rfl (c' (ih0 _ _ _ hx2) rfl rfl (e' rfl (T' rfl (lw' (ih1 _ _ _ _ hh) rfl rfl rfl)))))))))
  cases hh
  exact ex' (t' rfl (re' (rt' rfl rfl rfl)))
theorem Ui {e left res}(hh:V5 e left=some res):Ev e left res:=(X13).1 _ _ _ hh
mutual
def H5 (l:List C0)(left:Int):Option Int:=
 C8 l left 0
 partial_fixpoint
def C8 (l:List C0)(left2:Int)(i:Int):Option Int:=
 if (bif (decide (i < ((l).length:Int))) then (decide (left2≥0)) else false)=true then
  idx l i>>=fun x1=>
  V5 x1.Place (IntKind.i64.wrap ((IntKind.i64.wrap (left2 - 1)) - (IntKind.i64.wrap (Int.tdiv ((x1.Name).length:Int) 16))))>>=fun x2=>
  V5 x1.Value x2>>=fun x3=>
  Pa l x1 x3 i 0
 else
  some left2
 partial_fixpoint
def Pa (l:List C0)(x1:C0)(left1:Int)(i1:Int)(k:Int):Option Int:=
 if (bif (decide (k < ((x1.Args).length:Int))) then (decide (left1≥0)) else false)=true then
  idx x1.Args k>>=fun x4=>
  V5 x4 left1>>=fun x5=>
  Pa l x1 x5 i1 (IntKind.i64.wrap (k+1))
 else
  if (decide (((x1.Numbers).length:Int) > 100))=true then
   some (-1)
  else
   H5 x1.Then left1>>=fun x6=>
   H5 x1.Else x6>>=fun x7=>
   C8 l x7 (IntKind.i64.wrap (i1+1))
 partial_fixpoint
end
abbrev Ms (l:List C0)(left:Int)(res:Int):Prop:=O0 C 41 [.d (.sl (C0.rows l)),.d (.int .i64 left)] [] (Ret [] (.d (.int .i64 res)))
abbrev E10 (l:List C0)(left2:Int)(i:Int)(res:Int):Prop:=LM C 68 0 Tryz.f41 [1,0,1,4] [(0,.d (.sl (C0.rows l))),(1,.d (.int .i64 left2)),(5,.d (.int .i64 i))] [] (Ret [] (.d (.int .i64 res)))
abbrev F10 (l:List C0)(x1:C0)(left1:Int)(i1:Int)(k:Int)(res:Int):Prop:=LM C 68 0 Tryz.f41 [1,0,1,4,5,1,0,4,1,1,1,1,0,1,4] [(0,.d (.sl (C0.rows l))),(1,.d (.int .i64 left1)),(5,.d (.int .i64 i1)),(6,.ref 0 0),(7,.d (.int .i64 k))] [.row (C0.cells x1) 79] (Ret [] (.d (.int .i64 res)))
theorem F12:(∀ l left res,H5 l left=some res→Ms l left res)∧(∀ l left2 i res,C8 l left2 i=some res→E10 l left2 i res)∧(∀ l x1 left1 i1 k res,Pa l x1 left1 i1 k=some res→F10 l x1 left1 i1 k res):=by
 refine H5.mutual_partial_correctness _ _ _ ?_ ?_ ?_
 ·intro g1 ih1 l left res hh
  exact O0.intro hC Tryz.func41 rfl rfl rfl (t' rfl (S' (t' rfl (bk' (fw' (ih1 _ _ _ _ hh) rfl rfl rfl)))))
 ·intro g2 ih2 l left2 i res hh
  refine D1.unroll (S' (sg' 8 rfl (G' 2 rfl (AG.qe hC rfl (fun hg=>⟨trivial,trivial⟩) (C0.lenA _) (G' 3 rfl (a1' rfl (pa' rfl (an' (n' (ci' rfl hh (fun hh=>?_) (fun hh=>?_)))))))))))
  ·obtain ⟨x1,hx1,hh⟩:=bs' hh
   obtain ⟨x2,hx2,hh⟩:=bs' hh
   obtain ⟨x3,hx3,hh⟩:=bs' hh
   refine sk' (S' (bk' (p' 2 rfl (i' rfl (T0 hx1) (C0.idx hx1) rfl (q' rfl (L0.nf hC rfl (L0.s hC rfl (n' (p' 5 rfl (qc' rfl (by decide) (e' rfl (p' 3 rfl (c' (Ui hx2) rfl rfl ?_)))))))))))))
   exact e' rfl (p' 3 rfl (c' (Ui hx3) rfl rfl (e' rfl (S' (t' rfl (bk' (fw' (ih2 _ _ _ _ _ _ hh) rfl rfl rfl)))))))
  cases hh
  exact ex' (t' rfl (re' (rt' rfl rfl rfl)))
 ·intro g0 g1 g2 ih0 ih1 ih2 l x1 left1 i1 k res hh
  refine D1.unroll (S' (sg' 9 rfl (G' 3 rfl (AG.qe hC rfl (fun hg=>⟨trivial,trivial⟩) (A0.lenA _) (G' 3 rfl (a1' rfl (pa' rfl (an' (n' (ci' rfl hh (fun hh=>?_) (fun hh=>?_)))))))))))
  ·obtain ⟨x4,hx4,hh⟩:=bs' hh
   obtain ⟨x5,hx5,hh⟩:=bs' hh
   exact sk' (S' (bk' (P' 3 rfl (i' rfl (T0 hx4) (A0.idx hx4) rfl (o' 2 rfl (c' (Ui hx5) rfl rfl (e' rfl (T' rfl (lw' (ih2 _ _ _ _ _ _ hh) rfl rfl rfl)))))))))
  refine ex' (S' (p' 2 rfl (qe' rfl trivial (ei64.lenA _) (e' rfl (ci' rfl hh (fun hh=>?_) (fun hh=>?_))))))
  ·cases hh
   exact t' rfl (re' (rt' rfl rfl rfl))
  obtain ⟨x6,hx6,hh⟩:=bs' hh
  obtain ⟨x7,hx7,hh⟩:=bs' hh
  exact sk' (p' 3 rfl (c' (ih0 _ _ _ hx6) rfl rfl (e' rfl (P' 3 rfl (c' (ih0 _ _ _ hx7) rfl rfl (e' rfl (T' rfl (lw' (ih1 _ _ _ _ hh) rfl rfl rfl))))))))
theorem Jr {l left res}(hh:H5 l left=some res):Ms l left res:=(F12).1 _ _ _ hh
mutual
def F9 (l:List F0)(left:Int):Option Int:=
 Qa l left 0
 partial_fixpoint
def Qa (l:List F0)(left1:Int)(i:Int):Option Int:=
 if (bif (decide (i < ((l).length:Int))) then (decide (left1≥0)) else false)=true then
  idx l i>>=fun x1=>
  Q8 x1.TypeV (IntKind.i64.wrap ((IntKind.i64.wrap (left1 - 1)) - (IntKind.i64.wrap (Int.tdiv ((x1.Name).length:Int) 16))))>>=fun x2=>
  V5 x1.Value x2>>=fun x3=>
  F9 x1.Params x3>>=fun x4=>
  F9 x1.Vars x4>>=fun x5=>
  H5 x1.Body x5>>=fun x6=>
  Qa l x6 (IntKind.i64.wrap (i+1))
 else
  some left1
 partial_fixpoint
end
abbrev Ns (l:List F0)(left:Int)(res:Int):Prop:=O0 C 42 [.d (.sl (F0.rows l)),.d (.int .i64 left)] [] (Ret [] (.d (.int .i64 res)))
abbrev G10 (l:List F0)(left1:Int)(i:Int)(res:Int):Prop:=LM C 49 0 Tryz.f42 [1,0,1,4] [(0,.d (.sl (F0.rows l))),(1,.d (.int .i64 left1)),(5,.d (.int .i64 i))] [] (Ret [] (.d (.int .i64 res)))
theorem G12:(∀ l left res,F9 l left=some res→Ns l left res)∧(∀ l left1 i res,Qa l left1 i=some res→G10 l left1 i res):=by
 refine F9.mutual_partial_correctness _ _ ?_ ?_
 ·intro g1 ih1 l left res hh
  exact O0.intro hC Tryz.func42 rfl rfl rfl (t' rfl (S' (t' rfl (bk' (fw' (ih1 _ _ _ _ hh) rfl rfl rfl)))))
 ·intro g0 g1 ih0 ih1 l left1 i res hh
  refine D1.unroll (S' (sg' 8 rfl (G' 2 rfl (AG.qe hC rfl (fun hg=>⟨trivial,trivial⟩) (F0.lenA _) (G' 3 rfl (a1' rfl (pa' rfl (an' (n' (ci' rfl hh (fun hh=>?_) (fun hh=>?_)))))))))))
  ·obtain ⟨x1,hx1,hh⟩:=bs' hh
   obtain ⟨x2,hx2,hh⟩:=bs' hh
   obtain ⟨x3,hx3,hh⟩:=bs' hh
   obtain ⟨x4,hx4,hh⟩:=bs' hh
   obtain ⟨x5,hx5,hh⟩:=bs' hh
   obtain ⟨x6,hx6,hh⟩:=bs' hh
   refine sk' (S' (bk' (p' 2 rfl (i' rfl (T0 hx1) (F0.idx hx1) rfl (q' rfl (L0.nf hC rfl (L0.s hC rfl (n' (p' 5 rfl (qc' rfl (by decide) (e' rfl (p' 3 rfl (c' (S15 hx2) rfl rfl ?_)))))))))))))
   exact e' rfl (p' 3 rfl (c' (Ui hx3) rfl rfl (e' rfl (p' 3 rfl (c' (ih0 _ _ _ hx4) rfl rfl (e' rfl (p' 3 rfl (c' (ih0 _ _ _ hx5) rfl rfl (e' rfl (P' 3 rfl (c' (Jr hx6) rfl rfl (e' rfl (T' rfl (lw' (ih1 _ _ _ _ hh) rfl rfl rfl))))))))))))))
  cases hh
  exact ex' (t' rfl (re' (rt' rfl rfl rfl)))
theorem Y13 {l left res}(hh:F9 l left=some res):Ns l left res:=(G12).1 _ _ _ hh
end Go.Proofs.YtbmlpamppbcdeaaGreatDoor

set_option maxRecDepth 100000
set_option maxHeartbeats 4000000
set_option synthInstance.maxSize 20000
set_option linter.unusedVariables false
namespace Go.Proofs.YtbmlpamppbcdeaaGreatDoor
open Go.Am
def Kr (p:Q0)(most:Int):Option Bool:=
 F9 p.Decls most>>=fun x1=>
 H5 p.Body x1>>=fun x2=>
 some (decide (x2≥0))
theorem S1d {p most res}(hh:Kr p most=some res):O0 C 13 [.agg (Q0.cells p),.d (.int .i64 most)] [] (Ret [] (.d (.bool res))):=by
 unfold Kr at hh
 obtain ⟨x1,hx1,hh⟩:=bs' hh
 obtain ⟨x2,hx2,hh⟩:=bs' hh
 cases hh
 exact O0.intro hC Tryz.func13 rfl rfl rfl (s' rfl rfl (L0.n hC rfl (e' rfl (S' (AEx.draw hC 9 rfl rfl rfl (O' 5 rfl (Qc' (Y13 hx1) rfl rfl (Qc' (Jr hx2) rfl rfl (E' rfl (n' (re' (rt' rfl rfl rfl))))))))))))
def C7 (s:Str)(m:List (Str×Bool)):Option (Str×List (Str×Bool)):=
 some (s,(mpt s true m))
theorem Wi {s m res}(hh:C7 s m=some res):O0 C 91 [.d (.str s),.ref 0 0] [.row [.mp 1] 144,.map (.s (ebool.ents m))] (Ret [.row [.mp 1] 144,.map (.s (ebool.ents res.2))] (.d (.str res.1))):=by
 unfold C7 at hh
 cases hh
 exact O0.intro hC Tryz.func91 rfl rfl rfl (t' rfl (p' 2 rfl (L0.ue hC rfl (ebool.mput _ true _) rfl (n' (t' rfl (re' (rt' rfl rfl rfl)))))))
mutual
def D8 (t:D0)(m:List (Str×Bool)):Option (D0×List (Str×Bool)):=
 if (t.Kind == 4)=true then
  C7 t.Name m>>=fun x1=>
  Ra t x1.2 x1.1
 else
  Ra t m t.Name
 partial_fixpoint
def Ra (t:D0)(m1:List (Str×Bool))(o3_Name:Str):Option (D0×List (Str×Bool)):=
 Ea t.Names>>=fun x2=>
 Gk t.Of m1>>=fun x3=>
 some ((D0.mk t.Kind t.Low t.High t.Size o3_Name x2 x3.1),x3.2)
 partial_fixpoint
def Gk (l:List D0)(m:List (Str×Bool)):Option (List D0×List (Str×Bool)):=
 N6 l m [] 0
 partial_fixpoint
def N6 (l:List D0)(m1:List (Str×Bool))(out:List D0)(v10:Int):Option (List D0×List (Str×Bool)):=
 if (decide (v10 < ((l).length:Int)))=true then
  idx l v10>>=fun x1=>
  D8 x1 m1>>=fun x2=>
  if (decide ((out.length+1) * 97≤140737488355328))=true then
   N6 l x2.2 (out++[x2.1]) (IntKind.i64.wrap (v10+1))
  else none
 else
  some (out,m1)
 partial_fixpoint
end
abbrev Oo (t:D0)(m:List (Str×Bool))(res:D0×List (Str×Bool)):Prop:=O0 C 106 [.agg [.clo 91 [.ref 0 0]],.agg (D0.cells t)] [.row [.mp 1] 144,.map (.s (ebool.ents m))] (Ret [.row [.mp 1] 144,.map (.s (ebool.ents res.2))] (.agg (D0.cells res.1)))
abbrev Iw (t:D0)(m1:List (Str×Bool))(o3_Name:Str)(res:D0×List (Str×Bool)):Prop:=JM C 25 2 Tryz.f106 [1,1] [(2,.ref 2 0),(3,.ref 3 0),(4,.ref 4 0)] [.row [.mp 1] 144,.map (.s (ebool.ents m1)),.row [.clo 91 [.ref 0 0]] 92,.row [.d (.int .i64 t.Kind),.d (.int .i64 t.Low),.d (.int .i64 t.High),.d (.int .i64 t.Size),.d (.str o3_Name),.d (.sl (estr.rows t.Names)),.d (.sl (D0.rows t.Of))] 48,.row [.d (.int .i64 0),.d (.int .i64 0),.d (.int .i64 0),.d (.int .i64 0),.d (.str []),.full (estr.rows []),.full (D0.rows [])] 48] (Ret [.row [.mp 1] 144,.map (.s (ebool.ents res.2))] (.agg (D0.cells res.1)))
abbrev Zx (l:List D0)(m:List (Str×Bool))(res:List D0×List (Str×Bool)):Prop:=O0 C 194 [.d (.sl (D0.rows l)),.bnd 106 [.agg [.clo 91 [.ref 0 0]]]] [.row [.mp 1] 144,.map (.s (ebool.ents m))] (Ret [.row [.mp 1] 144,.map (.s (ebool.ents res.2))] (.d (.sl (D0.rows res.1))))
abbrev Mt (l:List D0)(m1:List (Str×Bool))(out:List D0)(v10:Int)(res:List D0×List (Str×Bool)):Prop:=LM C 22 2 Tryz.f194 [1,1,0,1,4] [(1,.bnd 106 [.agg [.clo 91 [.ref 0 0]]]),(5,.osl 2 (D0.rows out)),(8,.d (.sl (D0.rows l))),(9,.d (.int .i64 ((l).length:Int))),(10,.d (.int .i64 v10))] [.row [.mp 1] 144,.map (.s (ebool.ents m1)),.tok 48 7] (Ret [.row [.mp 1] 144,.map (.s (ebool.ents res.2))] (.d (.sl (D0.rows res.1))))
theorem Ay:(∀ t m res,D8 t m=some res→Oo t m res)∧(∀ t m1 o3_Name res,Ra t m1 o3_Name=some res→Iw t m1 o3_Name res)∧(∀ l m res,Gk l m=some res→Zx l m res)∧(∀ l m1 out v10 res,N6 l m1 out v10=some res→Mt l m1 out v10 res):=by
 refine D8.mutual_partial_correctness _ _ _ _ ?_ ?_ ?_ ?_
 ·intro g1 ih1 t m res hh
  refine O0.intro hC Tryz.func106 rfl rfl rfl (s' rfl rfl (L0.n hC rfl (L0.n hC rfl (L0.nf hC rfl (n' (S' (t' rfl (ci' rfl hh (fun hh=>?_) (fun hh=>?_)))))))))
  ·obtain ⟨x1,hx1,hh⟩:=bs' hh
   exact P' 4 rfl (g' [0,1] (Wi hx1) rfl rfl rfl rfl rfl rfl (q' rfl (L0.s hC rfl (n' (ew' (ih1 _ _ _ _ hh) rfl rfl rfl)))))
  exact sk' (ew' (ih1 _ _ _ _ hh) rfl rfl rfl)
 ·intro g2 ih2 t m1 o3_Name res hh
  obtain ⟨x2,hx2,hh⟩:=bs' hh
  obtain ⟨x3,hx3,hh⟩:=bs' hh
  cases hh
  exact p' 2 rfl (c' (Hp hx2) rfl rfl (q' rfl (L0.s hC rfl (n' (p' 4 rfl (g' [0,1] (ih2 _ _ _ hx3) rfl rfl rfl rfl rfl rfl (q' rfl (L0.s hC rfl (n' (p' 1 rfl (L0.s hC rfl (n' (re' (rt' rfl rfl rfl))))))))))))))
 ·intro g3 ih3 l m res hh
  exact O0.intro hC Tryz.func194 rfl rfl rfl (t' rfl (p' 1 rfl (L0.tokE 5 48 7 rfl (n' (S' (p' 1 rfl (qe' rfl trivial (D0.lenA _) (e' rfl (bk' (fw' (ih3 _ _ _ _ _ hh) rfl rfl rfl))))))))))
 ·intro g0 g3 ih0 ih3 l m1 out v10 res hh
  refine D1.unroll (t' rfl (S' (ci' rfl hh (fun hh=>?_) (fun hh=>?_))))
  ·obtain ⟨x1,hx1,hh⟩:=bs' hh
   obtain ⟨x2,hx2,hh⟩:=bs' hh
   obtain ⟨c6,hh⟩:=X0 hh
   refine sk' (S' (bk' (s' rfl rfl (i' rfl (T0 hx1) (D0.idx hx1) rfl (q' rfl (L0.nf hC rfl (L0.s hC rfl (n' (P' 3 rfl (g' [0,1] (ih0 _ _ _ hx2) rfl rfl rfl rfl rfl rfl (L0.be hC rfl (D0.rows_map [x2.1]).symm (L0.ap hC rfl (rs:=D0.rows (out++[x2.1])) (D0.app out [x2.1]) (D0.sz out) (D0.sz [x2.1]) (X4 (D0.len out) (D0.len [x2.1]) c6) (e' rfl ?_)))))))))))))
   exact T' rfl (lw' (ih3 _ _ _ _ _ hh) rfl rfl rfl)
  refine ex' (t' rfl (re' ?_))
  obtain rfl:=oi' hh
  exact ⟨_,.d (.sl (D0.rows out)),[.row [.mp 1] 144,.map (.s (ebool.ents m1))],rfl,.osl,⟨⟨rfl,.refl _,rfl⟩,rfl,trivial⟩,rfl,rfl,rfl,rfl⟩
theorem Zy {t m res}(hh:D8 t m=some res):Oo t m res:=(Ay).1 _ _ _ hh
mutual
def R4 (e:A0)(m:List (Str×Bool)):Option (A0×List (Str×Bool)):=
 if (e.Op == 3)=true then
  C7 e.Name m>>=fun x1=>
  Y9 e x1.2 x1.1
 else
  Y9 e m e.Name
 partial_fixpoint
def Y9 (e:A0)(m1:List (Str×Bool))(o3_Name:Str):Option (A0×List (Str×Bool)):=
 T6 e.Kids m1>>=fun x2=>
 some ((A0.mk e.Op e.NV o3_Name x2.1),x2.2)
 partial_fixpoint
def T6 (l:List A0)(m:List (Str×Bool)):Option (List A0×List (Str×Bool)):=
 D3 l m [] 0
 partial_fixpoint
def D3 (l:List A0)(m1:List (Str×Bool))(out:List A0)(v10:Int):Option (List A0×List (Str×Bool)):=
 if (decide (v10 < ((l).length:Int)))=true then
  idx l v10>>=fun x1=>
  R4 x1 m1>>=fun x2=>
  if (decide ((out.length+1) * 57≤140737488355328))=true then
   D3 l x2.2 (out++[x2.1]) (IntKind.i64.wrap (v10+1))
  else none
 else
  some (out,m1)
 partial_fixpoint
end
abbrev Yn (e:A0)(m:List (Str×Bool))(res:A0×List (Str×Bool)):Prop:=O0 C 107 [.agg [.clo 91 [.ref 0 0]],.agg (A0.cells e)] [.row [.mp 1] 144,.map (.s (ebool.ents m))] (Ret [.row [.mp 1] 144,.map (.s (ebool.ents res.2))] (.agg (A0.cells res.1)))
abbrev Fv (e:A0)(m1:List (Str×Bool))(o3_Name:Str)(res:A0×List (Str×Bool)):Prop:=JM C 21 2 Tryz.f107 [1,1] [(2,.ref 2 0),(3,.ref 3 0),(4,.ref 4 0)] [.row [.mp 1] 144,.map (.s (ebool.ents m1)),.row [.clo 91 [.ref 0 0]] 92,.row [.d (.int .i64 e.Op),.d (.int .i64 e.NV),.d (.str o3_Name),.d (.sl (A0.rows e.Kids))] 40,.row [.d (.int .i64 0),.d (.int .i64 0),.d (.str []),.full (A0.rows [])] 40] (Ret [.row [.mp 1] 144,.map (.s (ebool.ents res.2))] (.agg (A0.cells res.1)))
abbrev Um (l:List A0)(m:List (Str×Bool))(res:List A0×List (Str×Bool)):Prop:=O0 C 109 [.d (.sl (A0.rows l)),.bnd 107 [.agg [.clo 91 [.ref 0 0]]]] [.row [.mp 1] 144,.map (.s (ebool.ents m))] (Ret [.row [.mp 1] 144,.map (.s (ebool.ents res.2))] (.d (.sl (A0.rows res.1))))
abbrev Nt (l:List A0)(m1:List (Str×Bool))(out:List A0)(v10:Int)(res:List A0×List (Str×Bool)):Prop:=LM C 22 2 Tryz.f109 [1,1,0,1,4] [(1,.bnd 107 [.agg [.clo 91 [.ref 0 0]]]),(5,.osl 2 (A0.rows out)),(8,.d (.sl (A0.rows l))),(9,.d (.int .i64 ((l).length:Int))),(10,.d (.int .i64 v10))] [.row [.mp 1] 144,.map (.s (ebool.ents m1)),.tok 40 4] (Ret [.row [.mp 1] 144,.map (.s (ebool.ents res.2))] (.d (.sl (A0.rows res.1))))
theorem Dm:(∀ e m res,R4 e m=some res→Yn e m res)∧(∀ e m1 o3_Name res,Y9 e m1 o3_Name=some res→Fv e m1 o3_Name res)∧(∀ l m res,T6 l m=some res→Um l m res)∧(∀ l m1 out v10 res,D3 l m1 out v10=some res→Nt l m1 out v10 res):=by
 refine R4.mutual_partial_correctness _ _ _ _ ?_ ?_ ?_ ?_
 ·intro g1 ih1 e m res hh
  refine O0.intro hC Tryz.func107 rfl rfl rfl (s' rfl rfl (L0.n hC rfl (L0.n hC rfl (L0.nf hC rfl (n' (S' (t' rfl (ci' rfl hh (fun hh=>?_) (fun hh=>?_)))))))))
  ·obtain ⟨x1,hx1,hh⟩:=bs' hh
   exact P' 4 rfl (g' [0,1] (Wi hx1) rfl rfl rfl rfl rfl rfl (q' rfl (L0.s hC rfl (n' (ew' (ih1 _ _ _ _ hh) rfl rfl rfl)))))
  exact sk' (ew' (ih1 _ _ _ _ hh) rfl rfl rfl)
 ·intro g2 ih2 e m1 o3_Name res hh
  obtain ⟨x2,hx2,hh⟩:=bs' hh
  cases hh
  exact p' 4 rfl (g' [0,1] (ih2 _ _ _ hx2) rfl rfl rfl rfl rfl rfl (q' rfl (L0.s hC rfl (n' (p' 1 rfl (L0.s hC rfl (n' (re' (rt' rfl rfl rfl)))))))))
 ·intro g3 ih3 l m res hh
  exact O0.intro hC Tryz.func109 rfl rfl rfl (t' rfl (p' 1 rfl (L0.tokE 5 40 4 rfl (n' (S' (p' 1 rfl (qe' rfl trivial (A0.lenA _) (e' rfl (bk' (fw' (ih3 _ _ _ _ _ hh) rfl rfl rfl))))))))))
 ·intro g0 g3 ih0 ih3 l m1 out v10 res hh
  refine D1.unroll (t' rfl (S' (ci' rfl hh (fun hh=>?_) (fun hh=>?_))))
  ·obtain ⟨x1,hx1,hh⟩:=bs' hh
   obtain ⟨x2,hx2,hh⟩:=bs' hh
   obtain ⟨c6,hh⟩:=X0 hh
   refine sk' (S' (bk' (s' rfl rfl (i' rfl (T0 hx1) (A0.idx hx1) rfl (q' rfl (L0.nf hC rfl (L0.s hC rfl (n' (P' 3 rfl (g' [0,1] (ih0 _ _ _ hx2) rfl rfl rfl rfl rfl rfl (L0.be hC rfl (A0.rows_map [x2.1]).symm (L0.ap hC rfl (rs:=A0.rows (out++[x2.1])) (A0.app out [x2.1]) (A0.sz out) (A0.sz [x2.1]) (X4 (A0.len out) (A0.len [x2.1]) c6) (e' rfl ?_)))))))))))))
   exact T' rfl (lw' (ih3 _ _ _ _ _ hh) rfl rfl rfl)
  refine ex' (t' rfl (re' ?_))
  obtain rfl:=oi' hh
  exact ⟨_,.d (.sl (A0.rows out)),[.row [.mp 1] 144,.map (.s (ebool.ents m1))],rfl,.osl,⟨⟨rfl,.refl _,rfl⟩,rfl,trivial⟩,rfl,rfl,rfl,rfl⟩
theorem Oi {e m res}(hh:R4 e m=some res):Yn e m res:=(Dm).1 _ _ _ hh
theorem Jw {l m res}(hh:T6 l m=some res):Um l m res:=(Dm).2.2.1 _ _ _ hh
mutual
def L3 (l:List C0)(m:List (Str×Bool)):Option (List C0×List (Str×Bool)):=
 P6 l m [] 0
 partial_fixpoint
def P6 (l:List C0)(m1:List (Str×Bool))(out:List C0)(v10:Int):Option (List C0×List (Str×Bool)):=
 if (decide (v10 < ((l).length:Int)))=true then
  idx l v10>>=fun x1=>
  Oh x1 m1>>=fun x2=>
  if (decide ((out.length+1) * 257≤140737488355328))=true then
   P6 l x2.2 (out++[x2.1]) (IntKind.i64.wrap (v10+1))
  else none
 else
  some (out,m1)
 partial_fixpoint
def Oh (s:C0)(m:List (Str×Bool)):Option (C0×List (Str×Bool)):=
 B8 s.Verb>>=fun x1=>
 if x1.1.name=true then
  C7 s.Name m>>=fun x2=>
  Z9 s x2.2 x2.1
 else
  Z9 s m s.Name
 partial_fixpoint
def Z9 (s:C0)(m1:List (Str×Bool))(o3_Name:Str):Option (C0×List (Str×Bool)):=
 R4 s.Place m1>>=fun x3=>
 R4 s.Value x3.2>>=fun x4=>
 T6 s.Args x4.2>>=fun x5=>
 Wg s.Numbers>>=fun x6=>
 L3 s.Then x5.2>>=fun x7=>
 L3 s.Else x7.2>>=fun x8=>
 some ((C0.mk s.Verb x3.1 x4.1 o3_Name x5.1 s.NV s.Low s.High x6 x7.1 x8.1),x8.2)
 partial_fixpoint
end
abbrev Vm (l:List C0)(m:List (Str×Bool))(res:List C0×List (Str×Bool)):Prop:=O0 C 53 [.d (.sl (C0.rows l)),.bnd 54 [.agg [.clo 91 [.ref 0 0]]]] [.row [.mp 1] 144,.map (.s (ebool.ents m))] (Ret [.row [.mp 1] 144,.map (.s (ebool.ents res.2))] (.d (.sl (C0.rows res.1))))
abbrev Ot (l:List C0)(m1:List (Str×Bool))(out:List C0)(v10:Int)(res:List C0×List (Str×Bool)):Prop:=LM C 22 2 Tryz.f53 [1,1,0,1,4] [(1,.bnd 54 [.agg [.clo 91 [.ref 0 0]]]),(5,.osl 2 (C0.rows out)),(8,.d (.sl (C0.rows l))),(9,.d (.int .i64 ((l).length:Int))),(10,.d (.int .i64 v10))] [.row [.mp 1] 144,.map (.s (ebool.ents m1)),.tok 79 17] (Ret [.row [.mp 1] 144,.map (.s (ebool.ents res.2))] (.d (.sl (C0.rows res.1))))
abbrev Az (s:C0)(m:List (Str×Bool))(res:C0×List (Str×Bool)):Prop:=O0 C 54 [.agg [.clo 91 [.ref 0 0]],.agg (C0.cells s)] [.row [.mp 1] 144,.map (.s (ebool.ents m))] (Ret [.row [.mp 1] 144,.map (.s (ebool.ents res.2))] (.agg (C0.cells res.1)))
abbrev Gv (s:C0)(m1:List (Str×Bool))(o3_Name:Str)(res:C0×List (Str×Bool)):Prop:=JM C 54 2 Tryz.f54 [1,1] [(2,.ref 2 0),(3,.ref 3 0),(4,.ref 4 0)] [.row [.mp 1] 144,.map (.s (ebool.ents m1)),.row [.clo 91 [.ref 0 0]] 92,.row [.d (.int .i64 s.Verb),.d (.int .i64 s.Place.Op),.d (.int .i64 s.Place.NV),.d (.str s.Place.Name),.d (.sl (A0.rows s.Place.Kids)),.d (.int .i64 s.Value.Op),.d (.int .i64 s.Value.NV),.d (.str s.Value.Name),.d (.sl (A0.rows s.Value.Kids)),.d (.str o3_Name),.d (.sl (A0.rows s.Args)),.d (.int .i64 s.NV),.d (.int .i64 s.Low),.d (.int .i64 s.High),.d (.sl (ei64.rows s.Numbers)),.d (.sl (C0.rows s.Then)),.d (.sl (C0.rows s.Else))] 79,.row [.d (.int .i64 0),.d (.int .i64 0),.d (.int .i64 0),.d (.str []),.full (A0.rows []),.d (.int .i64 0),.d (.int .i64 0),.d (.str []),.full (A0.rows []),.d (.str []),.full (A0.rows []),.d (.int .i64 0),.d (.int .i64 0),.d (.int .i64 0),.full (ei64.rows []),.full (C0.rows []),.full (C0.rows [])] 79] (Ret [.row [.mp 1] 144,.map (.s (ebool.ents res.2))] (.agg (C0.cells res.1)))
theorem Hv:(∀ l m res,L3 l m=some res→Vm l m res)∧(∀ l m1 out v10 res,P6 l m1 out v10=some res→Ot l m1 out v10 res)∧(∀ s m res,Oh s m=some res→Az s m res)∧(∀ s m1 o3_Name res,Z9 s m1 o3_Name=some res→Gv s m1 o3_Name res):=by
 refine L3.mutual_partial_correctness _ _ _ _ ?_ ?_ ?_ ?_
 ·intro g1 ih1 l m res hh
  exact O0.intro hC Tryz.func53 rfl rfl rfl (t' rfl (p' 1 rfl (L0.tokE 5 79 17 rfl (n' (S' (p' 1 rfl (qe' rfl trivial (C0.lenA _) (e' rfl (bk' (fw' (ih1 _ _ _ _ _ hh) rfl rfl rfl))))))))))
 ·intro g1 g2 ih1 ih2 l m1 out v10 res hh
  refine D1.unroll (t' rfl (S' (ci' rfl hh (fun hh=>?_) (fun hh=>?_))))
  ·obtain ⟨x1,hx1,hh⟩:=bs' hh
   obtain ⟨x2,hx2,hh⟩:=bs' hh
   obtain ⟨c5,hh⟩:=X0 hh
   refine sk' (S' (bk' (s' rfl rfl (i' rfl (T0 hx1) (C0.idx hx1) rfl (q' rfl (L0.nf hC rfl (L0.s hC rfl (n' (P' 3 rfl (g' [0,1] (ih2 _ _ _ hx2) rfl rfl rfl rfl rfl rfl (L0.be hC rfl (C0.rows_map [x2.1]).symm (L0.ap hC rfl (rs:=C0.rows (out++[x2.1])) (C0.app out [x2.1]) (C0.sz out) (C0.sz [x2.1]) (X4 (C0.len out) (C0.len [x2.1]) c5) (e' rfl ?_)))))))))))))
   exact T' rfl (lw' (ih1 _ _ _ _ _ hh) rfl rfl rfl)
  refine ex' (t' rfl (re' ?_))
  obtain rfl:=oi' hh
  exact ⟨_,.d (.sl (C0.rows out)),[.row [.mp 1] 144,.map (.s (ebool.ents m1))],rfl,.osl,⟨⟨rfl,.refl _,rfl⟩,rfl,trivial⟩,rfl,rfl,rfl,rfl⟩
 ·intro g3 ih3 s m res hh
  obtain ⟨x1,hx1,hh⟩:=bs' hh
  refine O0.intro hC Tryz.func54 rfl rfl rfl (s' rfl rfl (L0.n hC rfl (L0.n hC rfl (L0.nf hC rfl (n' (S' (p' 2 rfl (c' (Qp hx1) rfl rfl (o' 3 rfl (L0.n hC rfl (L0.s hC rfl (e' rfl (t' rfl (ci' rfl hh (fun hh=>?_) (fun hh=>?_)))))))))))))))
  ·obtain ⟨x2,hx2,hh⟩:=bs' hh
   exact P' 4 rfl (g' [0,1] (Wi hx2) rfl rfl rfl rfl rfl rfl (q' rfl (L0.s hC rfl (n' (ew' (ih3 _ _ _ _ hh) rfl rfl rfl)))))
  exact sk' (ew' (ih3 _ _ _ _ hh) rfl rfl rfl)
 ·intro g0 ih0 s m1 o3_Name res hh
  obtain ⟨x3,hx3,hh⟩:=bs' hh
  obtain ⟨x4,hx4,hh⟩:=bs' hh
  obtain ⟨x5,hx5,hh⟩:=bs' hh
  obtain ⟨x6,hx6,hh⟩:=bs' hh
  obtain ⟨x7,hx7,hh⟩:=bs' hh
  obtain ⟨x8,hx8,hh⟩:=bs' hh
  cases hh
  refine S' ?_
  refine AEx.drawL hC 9 [3,7] [] [[.row [.mp 1] 144,.map (.s (ebool.ents m1)),.row [.clo 91 [.ref 0 0]] 92,.row [.d (.int .i64 s.Verb),.d (.int .i64 s.Place.Op),.d (.int .i64 s.Place.NV),.d (.str s.Place.Name),.d (.sl (A0.rows s.Place.Kids)),.d (.int .i64 s.Value.Op),.d (.int .i64 s.Value.NV),.d (.str s.Value.Name),.d (.sl (A0.rows s.Value.Kids)),.d (.str o3_Name),.d (.sl (A0.rows s.Args)),.d (.int .i64 s.NV),.d (.int .i64 s.Low),.d (.int .i64 s.High),.d (.sl (ei64.rows s.Numbers)),.d (.sl (C0.rows s.Then)),.d (.sl (C0.rows s.Else))] 79,.row [.d (.int .i64 0),.d (.int .i64 0),.d (.int .i64 0),.d (.str []),.full (A0.rows []),.d (.int .i64 0),.d (.int .i64 0),.d (.str []),.full (A0.rows []),.d (.str []),.full (A0.rows []),.d (.int .i64 0),.d (.int .i64 0),.d (.int .i64 0),.full (ei64.rows []),.full (C0.rows []),.full (C0.rows [])] 79],[.row [.mp 1] 144,.map (.s (ebool.ents x3.2)),.row [.clo 91 [.ref 0 0]] 92,.row [.d (.int .i64 s.Verb),.d (.int .i64 s.Place.Op),.d (.int .i64 s.Place.NV),.d (.str s.Place.Name),.d (.sl (A0.rows s.Place.Kids)),.d (.int .i64 s.Value.Op),.d (.int .i64 s.Value.NV),.d (.str s.Value.Name),.d (.sl (A0.rows s.Value.Kids)),.d (.str o3_Name),.d (.sl (A0.rows s.Args)),.d (.int .i64 s.NV),.d (.int .i64 s.Low),.d (.int .i64 s.High),.d (.sl (ei64.rows s.Numbers)),.d (.sl (C0.rows s.Then)),.d (.sl (C0.rows s.Else))] 79,.row [.d (.int .i64 0),.d (.int .i64 0),.d (.int .i64 0),.d (.str []),.full (A0.rows []),.d (.int .i64 0),.d (.int .i64 0),.d (.str []),.full (A0.rows []),.d (.str []),.full (A0.rows []),.d (.int .i64 0),.d (.int .i64 0),.d (.int .i64 0),.full (ei64.rows []),.full (C0.rows []),.full (C0.rows [])] 79],[.row [.mp 1] 144,.map (.s (ebool.ents x4.2)),.row [.clo 91 [.ref 0 0]] 92,.row [.d (.int .i64 s.Verb),.d (.int .i64 s.Place.Op),.d (.int .i64 s.Place.NV),.d (.str s.Place.Name),.d (.sl (A0.rows s.Place.Kids)),.d (.int .i64 s.Value.Op),.d (.int .i64 s.Value.NV),.d (.str s.Value.Name),.d (.sl (A0.rows s.Value.Kids)),.d (.str o3_Name),.d (.sl (A0.rows s.Args)),.d (.int .i64 s.NV),.d (.int .i64 s.Low),.d (.int .i64 s.High),.d (.sl (ei64.rows s.Numbers)),.d (.sl (C0.rows s.Then)),.d (.sl (C0.rows s.Else))] 79,.row [.d (.int .i64 0),.d (.int .i64 0),.d (.int .i64 0),.d (.str []),.full (A0.rows []),.d (.int .i64 0),.d (.int .i64 0),.d (.str []),.full (A0.rows []),.d (.str []),.full (A0.rows []),.d (.int .i64 0),.d (.int .i64 0),.d (.int .i64 0),.full (ei64.rows []),.full (C0.rows []),.full (C0.rows [])] 79]] rfl rfl rfl rfl rfl rfl rfl rfl rfl rfl ?_
  refine AS.q hC rfl rfl rfl rfl (AS.q hC rfl rfl rfl rfl (AS.q hC rfl rfl rfl rfl (AS.g [0,1] (Oi hx3) rfl rfl rfl rfl rfl rfl rfl rfl rfl rfl rfl rfl (AS.q hC rfl rfl rfl rfl (AS.q hC rfl rfl rfl rfl (AS.q hC rfl rfl rfl rfl (AS.g [0,1] (Oi hx4) rfl rfl rfl rfl rfl rfl rfl rfl rfl rfl rfl rfl (AS.q hC rfl rfl rfl rfl (AS.nil (L0.s hC rfl (q' rfl (L0.s hC rfl (n' ?_)))))))))))))
  refine p' 4 rfl (g' [0,1] (Jw hx5) rfl rfl rfl rfl rfl rfl (q' rfl (L0.s hC rfl (n' (p' 2 rfl (c' (Yv hx6) rfl rfl (q' rfl (L0.s hC rfl (n' (S' ?_))))))))))
  refine AEx.drawL hC 11 [4,9] [] [[.row [.mp 1] 144,.map (.s (ebool.ents x5.2)),.row [.clo 91 [.ref 0 0]] 92,.row [.d (.int .i64 s.Verb),.d (.int .i64 x3.1.Op),.d (.int .i64 x3.1.NV),.d (.str x3.1.Name),.d (.sl (A0.rows x3.1.Kids)),.d (.int .i64 x4.1.Op),.d (.int .i64 x4.1.NV),.d (.str x4.1.Name),.d (.sl (A0.rows x4.1.Kids)),.d (.str o3_Name),.d (.sl (A0.rows x5.1)),.d (.int .i64 s.NV),.d (.int .i64 s.Low),.d (.int .i64 s.High),.d (.sl (ei64.rows x6)),.d (.sl (C0.rows s.Then)),.d (.sl (C0.rows s.Else))] 79,.row [.d (.int .i64 0),.d (.int .i64 0),.d (.int .i64 0),.d (.str []),.full (A0.rows []),.d (.int .i64 0),.d (.int .i64 0),.d (.str []),.full (A0.rows []),.d (.str []),.full (A0.rows []),.d (.int .i64 0),.d (.int .i64 0),.d (.int .i64 0),.full (ei64.rows []),.full (C0.rows []),.full (C0.rows [])] 79],[.row [.mp 1] 144,.map (.s (ebool.ents x7.2)),.row [.clo 91 [.ref 0 0]] 92,.row [.d (.int .i64 s.Verb),.d (.int .i64 x3.1.Op),.d (.int .i64 x3.1.NV),.d (.str x3.1.Name),.d (.sl (A0.rows x3.1.Kids)),.d (.int .i64 x4.1.Op),.d (.int .i64 x4.1.NV),.d (.str x4.1.Name),.d (.sl (A0.rows x4.1.Kids)),.d (.str o3_Name),.d (.sl (A0.rows x5.1)),.d (.int .i64 s.NV),.d (.int .i64 s.Low),.d (.int .i64 s.High),.d (.sl (ei64.rows x6)),.d (.sl (C0.rows s.Then)),.d (.sl (C0.rows s.Else))] 79,.row [.d (.int .i64 0),.d (.int .i64 0),.d (.int .i64 0),.d (.str []),.full (A0.rows []),.d (.int .i64 0),.d (.int .i64 0),.d (.str []),.full (A0.rows []),.d (.str []),.full (A0.rows []),.d (.int .i64 0),.d (.int .i64 0),.d (.int .i64 0),.full (ei64.rows []),.full (C0.rows []),.full (C0.rows [])] 79],[.row [.mp 1] 144,.map (.s (ebool.ents x8.2)),.row [.clo 91 [.ref 0 0]] 92,.row [.d (.int .i64 s.Verb),.d (.int .i64 x3.1.Op),.d (.int .i64 x3.1.NV),.d (.str x3.1.Name),.d (.sl (A0.rows x3.1.Kids)),.d (.int .i64 x4.1.Op),.d (.int .i64 x4.1.NV),.d (.str x4.1.Name),.d (.sl (A0.rows x4.1.Kids)),.d (.str o3_Name),.d (.sl (A0.rows x5.1)),.d (.int .i64 s.NV),.d (.int .i64 s.Low),.d (.int .i64 s.High),.d (.sl (ei64.rows x6)),.d (.sl (C0.rows s.Then)),.d (.sl (C0.rows s.Else))] 79,.row [.d (.int .i64 0),.d (.int .i64 0),.d (.int .i64 0),.d (.str []),.full (A0.rows []),.d (.int .i64 0),.d (.int .i64 0),.d (.str []),.full (A0.rows []),.d (.str []),.full (A0.rows []),.d (.int .i64 0),.d (.int .i64 0),.d (.int .i64 0),.full (ei64.rows []),.full (C0.rows []),.full (C0.rows [])] 79]] rfl rfl rfl rfl rfl rfl rfl rfl rfl rfl ?_
  refine AS.q hC rfl rfl rfl rfl (AS.q hC rfl rfl rfl rfl (AS.q hC rfl rfl rfl rfl (AS.q hC rfl rfl rfl rfl (AS.g [0,1] (ih0 _ _ _ hx7) rfl rfl rfl rfl rfl rfl rfl rfl rfl rfl rfl rfl (AS.q hC rfl rfl rfl rfl (AS.q hC rfl rfl rfl rfl (AS.q hC rfl rfl rfl rfl (AS.q hC rfl rfl rfl rfl (AS.g [0,1] (ih0 _ _ _ hx8) rfl rfl rfl rfl rfl rfl rfl rfl rfl rfl rfl rfl (AS.q hC rfl rfl rfl rfl (AS.nil (L0.s hC rfl (q' rfl ?_)))))))))))))
  exact L0.s hC rfl (n' (p' 1 rfl (L0.s hC rfl (n' (re' (rt' rfl rfl rfl))))))
theorem Em {l m res}(hh:L3 l m=some res):Vm l m res:=(Hv).1 _ _ _ hh
mutual
def I5 (l:List F0)(m:List (Str×Bool)):Option (List F0×List (Str×Bool)):=
 Q6 l m [] 0
 partial_fixpoint
def Q6 (l:List F0)(m1:List (Str×Bool))(out:List F0)(v10:Int):Option (List F0×List (Str×Bool)):=
 if (decide (v10 < ((l).length:Int)))=true then
  idx l v10>>=fun x1=>
  Ph x1 m1>>=fun x2=>
  if (decide ((out.length+1) * 257≤140737488355328))=true then
   Q6 l x2.2 (out++[x2.1]) (IntKind.i64.wrap (v10+1))
  else none
 else
  some (out,m1)
 partial_fixpoint
def Ph (d:F0)(m:List (Str×Bool)):Option (F0×List (Str×Bool)):=
 C7 d.Name m>>=fun x1=>
 D8 d.TypeV x1.2>>=fun x2=>
 R4 d.Value x2.2>>=fun x3=>
 I5 d.Params x3.2>>=fun x4=>
 I5 d.Vars x4.2>>=fun x5=>
 L3 d.Body x5.2>>=fun x6=>
 some ((F0.mk d.Kind x1.1 x2.1 d.Init x3.1 x4.1 x5.1 x6.1),x6.2)
 partial_fixpoint
end
abbrev Wm (l:List F0)(m:List (Str×Bool))(res:List F0×List (Str×Bool)):Prop:=O0 C 51 [.d (.sl (F0.rows l)),.bnd 52 [.agg [.clo 91 [.ref 0 0]]]] [.row [.mp 1] 144,.map (.s (ebool.ents m))] (Ret [.row [.mp 1] 144,.map (.s (ebool.ents res.2))] (.d (.sl (F0.rows res.1))))
abbrev Pt (l:List F0)(m1:List (Str×Bool))(out:List F0)(v10:Int)(res:List F0×List (Str×Bool)):Prop:=LM C 22 2 Tryz.f51 [1,1,0,1,4] [(1,.bnd 52 [.agg [.clo 91 [.ref 0 0]]]),(5,.osl 2 (F0.rows out)),(8,.d (.sl (F0.rows l))),(9,.d (.int .i64 ((l).length:Int))),(10,.d (.int .i64 v10))] [.row [.mp 1] 144,.map (.s (ebool.ents m1)),.tok 75 17] (Ret [.row [.mp 1] 144,.map (.s (ebool.ents res.2))] (.d (.sl (F0.rows res.1))))
abbrev Bz (d:F0)(m:List (Str×Bool))(res:F0×List (Str×Bool)):Prop:=O0 C 52 [.agg [.clo 91 [.ref 0 0]],.agg (F0.cells d)] [.row [.mp 1] 144,.map (.s (ebool.ents m))] (Ret [.row [.mp 1] 144,.map (.s (ebool.ents res.2))] (.agg (F0.cells res.1)))
theorem Iv:(∀ l m res,I5 l m=some res→Wm l m res)∧(∀ l m1 out v10 res,Q6 l m1 out v10=some res→Pt l m1 out v10 res)∧(∀ d m res,Ph d m=some res→Bz d m res):=by
 refine I5.mutual_partial_correctness _ _ _ ?_ ?_ ?_
 ·intro g1 ih1 l m res hh
  exact O0.intro hC Tryz.func51 rfl rfl rfl (t' rfl (p' 1 rfl (L0.tokE 5 75 17 rfl (n' (S' (p' 1 rfl (qe' rfl trivial (F0.lenA _) (e' rfl (bk' (fw' (ih1 _ _ _ _ _ hh) rfl rfl rfl))))))))))
 ·intro g1 g2 ih1 ih2 l m1 out v10 res hh
  refine D1.unroll (t' rfl (S' (ci' rfl hh (fun hh=>?_) (fun hh=>?_))))
  ·obtain ⟨x1,hx1,hh⟩:=bs' hh
   obtain ⟨x2,hx2,hh⟩:=bs' hh
   obtain ⟨c5,hh⟩:=X0 hh
   refine sk' (S' (bk' (s' rfl rfl (i' rfl (T0 hx1) (F0.idx hx1) rfl (q' rfl (L0.nf hC rfl (L0.s hC rfl (n' (P' 3 rfl (g' [0,1] (ih2 _ _ _ hx2) rfl rfl rfl rfl rfl rfl (L0.be hC rfl (F0.rows_map [x2.1]).symm (L0.ap hC rfl (rs:=F0.rows (out++[x2.1])) (F0.app out [x2.1]) (F0.sz out) (F0.sz [x2.1]) (X4 (F0.len out) (F0.len [x2.1]) c5) (e' rfl ?_)))))))))))))
   exact T' rfl (lw' (ih1 _ _ _ _ _ hh) rfl rfl rfl)
  refine ex' (t' rfl (re' ?_))
  obtain rfl:=oi' hh
  exact ⟨_,.d (.sl (F0.rows out)),[.row [.mp 1] 144,.map (.s (ebool.ents m1))],rfl,.osl,⟨⟨rfl,.refl _,rfl⟩,rfl,trivial⟩,rfl,rfl,rfl,rfl⟩
 ·intro g0 ih0 d m res hh
  obtain ⟨x1,hx1,hh⟩:=bs' hh
  obtain ⟨x2,hx2,hh⟩:=bs' hh
  obtain ⟨x3,hx3,hh⟩:=bs' hh
  obtain ⟨x4,hx4,hh⟩:=bs' hh
  obtain ⟨x5,hx5,hh⟩:=bs' hh
  obtain ⟨x6,hx6,hh⟩:=bs' hh
  cases hh
  refine O0.intro hC Tryz.func52 rfl rfl rfl (s' rfl rfl (L0.n hC rfl (L0.n hC rfl (L0.nf hC rfl (n' (p' 4 rfl (g' [0,1] (Wi hx1) rfl rfl rfl rfl rfl rfl (q' rfl (L0.s hC rfl (n' (S' ?_)))))))))))
  refine AEx.drawL hC 9 [3,7] [] [[.row [.mp 1] 144,.map (.s (ebool.ents x1.2)),.row [.clo 91 [.ref 0 0]] 92,.row [.d (.int .i64 d.Kind),.d (.str x1.1),.d (.int .i64 d.TypeV.Kind),.d (.int .i64 d.TypeV.Low),.d (.int .i64 d.TypeV.High),.d (.int .i64 d.TypeV.Size),.d (.str d.TypeV.Name),.d (.sl (estr.rows d.TypeV.Names)),.d (.sl (D0.rows d.TypeV.Of)),.d (.int .i64 d.Init),.d (.int .i64 d.Value.Op),.d (.int .i64 d.Value.NV),.d (.str d.Value.Name),.d (.sl (A0.rows d.Value.Kids)),.d (.sl (F0.rows d.Params)),.d (.sl (F0.rows d.Vars)),.d (.sl (C0.rows d.Body))] 75,.row [.d (.int .i64 0),.d (.str []),.d (.int .i64 0),.d (.int .i64 0),.d (.int .i64 0),.d (.int .i64 0),.d (.str []),.full (estr.rows []),.full (D0.rows []),.d (.int .i64 0),.d (.int .i64 0),.d (.int .i64 0),.d (.str []),.full (A0.rows []),.full (F0.rows []),.full (F0.rows []),.full (C0.rows [])] 75],[.row [.mp 1] 144,.map (.s (ebool.ents x2.2)),.row [.clo 91 [.ref 0 0]] 92,.row [.d (.int .i64 d.Kind),.d (.str x1.1),.d (.int .i64 d.TypeV.Kind),.d (.int .i64 d.TypeV.Low),.d (.int .i64 d.TypeV.High),.d (.int .i64 d.TypeV.Size),.d (.str d.TypeV.Name),.d (.sl (estr.rows d.TypeV.Names)),.d (.sl (D0.rows d.TypeV.Of)),.d (.int .i64 d.Init),.d (.int .i64 d.Value.Op),.d (.int .i64 d.Value.NV),.d (.str d.Value.Name),.d (.sl (A0.rows d.Value.Kids)),.d (.sl (F0.rows d.Params)),.d (.sl (F0.rows d.Vars)),.d (.sl (C0.rows d.Body))] 75,.row [.d (.int .i64 0),.d (.str []),.d (.int .i64 0),.d (.int .i64 0),.d (.int .i64 0),.d (.int .i64 0),.d (.str []),.full (estr.rows []),.full (D0.rows []),.d (.int .i64 0),.d (.int .i64 0),.d (.int .i64 0),.d (.str []),.full (A0.rows []),.full (F0.rows []),.full (F0.rows []),.full (C0.rows [])] 75],[.row [.mp 1] 144,.map (.s (ebool.ents x3.2)),.row [.clo 91 [.ref 0 0]] 92,.row [.d (.int .i64 d.Kind),.d (.str x1.1),.d (.int .i64 d.TypeV.Kind),.d (.int .i64 d.TypeV.Low),.d (.int .i64 d.TypeV.High),.d (.int .i64 d.TypeV.Size),.d (.str d.TypeV.Name),.d (.sl (estr.rows d.TypeV.Names)),.d (.sl (D0.rows d.TypeV.Of)),.d (.int .i64 d.Init),.d (.int .i64 d.Value.Op),.d (.int .i64 d.Value.NV),.d (.str d.Value.Name),.d (.sl (A0.rows d.Value.Kids)),.d (.sl (F0.rows d.Params)),.d (.sl (F0.rows d.Vars)),.d (.sl (C0.rows d.Body))] 75,.row [.d (.int .i64 0),.d (.str []),.d (.int .i64 0),.d (.int .i64 0),.d (.int .i64 0),.d (.int .i64 0),.d (.str []),.full (estr.rows []),.full (D0.rows []),.d (.int .i64 0),.d (.int .i64 0),.d (.int .i64 0),.d (.str []),.full (A0.rows []),.full (F0.rows []),.full (F0.rows []),.full (C0.rows [])] 75]] rfl rfl rfl rfl rfl rfl rfl rfl rfl rfl ?_
  refine AS.q hC rfl rfl rfl rfl (AS.q hC rfl rfl rfl rfl (AS.q hC rfl rfl rfl rfl (AS.g [0,1] (Zy hx2) rfl rfl rfl rfl rfl rfl rfl rfl rfl rfl rfl rfl (AS.q hC rfl rfl rfl rfl (AS.q hC rfl rfl rfl rfl (AS.q hC rfl rfl rfl rfl (AS.g [0,1] (Oi hx3) rfl rfl rfl rfl rfl rfl rfl rfl rfl rfl rfl rfl (AS.q hC rfl rfl rfl rfl (AS.nil (L0.s hC rfl (q' rfl (L0.s hC rfl (n' ?_)))))))))))))
  refine S' ?_
  refine AEx.drawL hC 11 [4,9] [] [[.row [.mp 1] 144,.map (.s (ebool.ents x3.2)),.row [.clo 91 [.ref 0 0]] 92,.row [.d (.int .i64 d.Kind),.d (.str x1.1),.d (.int .i64 x2.1.Kind),.d (.int .i64 x2.1.Low),.d (.int .i64 x2.1.High),.d (.int .i64 x2.1.Size),.d (.str x2.1.Name),.d (.sl (estr.rows x2.1.Names)),.d (.sl (D0.rows x2.1.Of)),.d (.int .i64 d.Init),.d (.int .i64 x3.1.Op),.d (.int .i64 x3.1.NV),.d (.str x3.1.Name),.d (.sl (A0.rows x3.1.Kids)),.d (.sl (F0.rows d.Params)),.d (.sl (F0.rows d.Vars)),.d (.sl (C0.rows d.Body))] 75,.row [.d (.int .i64 0),.d (.str []),.d (.int .i64 0),.d (.int .i64 0),.d (.int .i64 0),.d (.int .i64 0),.d (.str []),.full (estr.rows []),.full (D0.rows []),.d (.int .i64 0),.d (.int .i64 0),.d (.int .i64 0),.d (.str []),.full (A0.rows []),.full (F0.rows []),.full (F0.rows []),.full (C0.rows [])] 75],[.row [.mp 1] 144,.map (.s (ebool.ents x4.2)),.row [.clo 91 [.ref 0 0]] 92,.row [.d (.int .i64 d.Kind),.d (.str x1.1),.d (.int .i64 x2.1.Kind),.d (.int .i64 x2.1.Low),.d (.int .i64 x2.1.High),.d (.int .i64 x2.1.Size),.d (.str x2.1.Name),.d (.sl (estr.rows x2.1.Names)),.d (.sl (D0.rows x2.1.Of)),.d (.int .i64 d.Init),.d (.int .i64 x3.1.Op),.d (.int .i64 x3.1.NV),.d (.str x3.1.Name),.d (.sl (A0.rows x3.1.Kids)),.d (.sl (F0.rows d.Params)),.d (.sl (F0.rows d.Vars)),.d (.sl (C0.rows d.Body))] 75,.row [.d (.int .i64 0),.d (.str []),.d (.int .i64 0),.d (.int .i64 0),.d (.int .i64 0),.d (.int .i64 0),.d (.str []),.full (estr.rows []),.full (D0.rows []),.d (.int .i64 0),.d (.int .i64 0),.d (.int .i64 0),.d (.str []),.full (A0.rows []),.full (F0.rows []),.full (F0.rows []),.full (C0.rows [])] 75],[.row [.mp 1] 144,.map (.s (ebool.ents x5.2)),.row [.clo 91 [.ref 0 0]] 92,.row [.d (.int .i64 d.Kind),.d (.str x1.1),.d (.int .i64 x2.1.Kind),.d (.int .i64 x2.1.Low),.d (.int .i64 x2.1.High),.d (.int .i64 x2.1.Size),.d (.str x2.1.Name),.d (.sl (estr.rows x2.1.Names)),.d (.sl (D0.rows x2.1.Of)),.d (.int .i64 d.Init),.d (.int .i64 x3.1.Op),.d (.int .i64 x3.1.NV),.d (.str x3.1.Name),.d (.sl (A0.rows x3.1.Kids)),.d (.sl (F0.rows d.Params)),.d (.sl (F0.rows d.Vars)),.d (.sl (C0.rows d.Body))] 75,.row [.d (.int .i64 0),.d (.str []),.d (.int .i64 0),.d (.int .i64 0),.d (.int .i64 0),.d (.int .i64 0),.d (.str []),.full (estr.rows []),.full (D0.rows []),.d (.int .i64 0),.d (.int .i64 0),.d (.int .i64 0),.d (.str []),.full (A0.rows []),.full (F0.rows []),.full (F0.rows []),.full (C0.rows [])] 75]] rfl rfl rfl rfl rfl rfl rfl rfl rfl rfl ?_
  refine AS.q hC rfl rfl rfl rfl (AS.q hC rfl rfl rfl rfl (AS.q hC rfl rfl rfl rfl (AS.q hC rfl rfl rfl rfl (AS.g [0,1] (ih0 _ _ _ hx4) rfl rfl rfl rfl rfl rfl rfl rfl rfl rfl rfl rfl (AS.q hC rfl rfl rfl rfl (AS.q hC rfl rfl rfl rfl (AS.q hC rfl rfl rfl rfl (AS.q hC rfl rfl rfl rfl (AS.g [0,1] (ih0 _ _ _ hx5) rfl rfl rfl rfl rfl rfl rfl rfl rfl rfl rfl rfl (AS.q hC rfl rfl rfl rfl (AS.nil (L0.s hC rfl (q' rfl ?_)))))))))))))
  exact L0.s hC rfl (n' (p' 4 rfl (g' [0,1] (Em hx6) rfl rfl rfl rfl rfl rfl (q' rfl (L0.s hC rfl (n' (p' 1 rfl (L0.s hC rfl (n' (re' (rt' rfl rfl rfl)))))))))))
theorem Kw {l m res}(hh:I5 l m=some res):Wm l m res:=(Iv).1 _ _ _ hh
def Ml (p:Q0):Option (List Str):=
 I5 p.Decls []>>=fun x1=>
 L3 p.Body x1.2>>=fun x2=>
 if (decide (x2.2.length * 17≤140737488355328))=true then
  some (Ug x2.2)
 else none
theorem X18 {p res}(hh:Ml p=some res):O0 C 44 [.agg (Q0.cells p)] [] (Ret [] (.d (.sl (estr.rows res)))):=by
 unfold Ml at hh
 obtain ⟨x1,hx1,hh⟩:=bs' hh
 obtain ⟨x2,hx2,hh⟩:=bs' hh
 obtain ⟨c5,hh⟩:=X0 hh
 cases hh
 refine O0.intro hC Tryz.func44 rfl rfl rfl (s' rfl rfl (L0.n hC rfl (e' rfl (s' rfl rfl (L0.w rfl (L0.n hC rfl (L0.s hC rfl (n' (p' 2 rfl (L0.n hC rfl (L0.s hC rfl (n' (p' 4 rfl ?_)))))))))))))
 refine g' [2,1] (Kw hx1) rfl rfl rfl rfl rfl rfl (n' (p' 4 rfl (g' [2,1] (Em hx2) rfl rfl rfl rfl rfl rfl (n' ?_))))
 exact AEx.keysort hC ⟨20,5,21,22,23,24,25,26,6,27,28,29,30,31,28,9,144,92,.tmp 3,some 32⟩ S1n rfl rfl rfl rfl rfl rfl rfl rfl rfl rfl rfl rfl (by rw [show ebool.ents x2.2=Di ebool.row x2.2 from rfl,I1h]; exact c5) (by rw [show ebool.ents x2.2=Di ebool.row x2.2 from rfl,H1h]; rfl) (t' rfl (re' (rt' rfl rfl rfl)))
def Qo (p:Q0):Option (List Str×Int):=
 Df p>>=fun x1=>
 if (x1 != 0)=true then
  some ([],x1)
 else
  Ml p>>=fun x2=>
  some (x2,0)
theorem Y18 {p res}(hh:Qo p=some res):O0 C 14 [.agg (Q0.cells p)] [] (Ret [] (.tup [.d (.sl (estr.rows res.1)),.d (.int .i64 res.2)])):=by
 unfold Qo at hh
 obtain ⟨x1,hx1,hh⟩:=bs' hh
 refine O0.intro hC Tryz.func14 rfl rfl rfl (s' rfl rfl (L0.n hC rfl (e' rfl (S' (p' 1 rfl (c' (Bx hx1) rfl rfl (e' rfl (t' rfl (ci' rfl hh (fun hh=>?_) (fun hh=>?_))))))))))
 ·refine t' rfl (re' ?_)
  obtain rfl:=oi' hh
  exact ⟨_,.tup [.d (.sl (estr.rows [])),.d (.int .i64 x1)],[],rfl,(.tupL ⟨.full,.rfl,trivial⟩),trivial,rfl,rfl,rfl,rfl⟩
 obtain ⟨x2,hx2,hh⟩:=bs' hh
 cases hh
 exact sk' (p' 1 rfl (c' (X18 hx2) rfl rfl (e' rfl (re' (rt' rfl rfl rfl)))))
def Rj (k:Int):Option Bool:=
 some (bif (decide (k≥0)) then (decide (k≤6)) else false)
theorem Ps {k res}(hh:Rj k=some res):O0 C 181 [.d (.int .i64 k)] [] (Ret [] (.d (.bool res))):=by
 unfold Rj at hh
 cases hh
 exact O0.intro hC Tryz.func181 rfl rfl rfl (t' rfl (sg' 7 rfl (G' 4 rfl (a1' rfl (pa' rfl (a0' rfl (an' (n' (re' (rt' rfl rfl rfl))))))))))
mutual
def G9 (a:D0)(b:D0):Option Bool:=
 if (bif (bif (bif (bif (bif (bif (a.Kind != b.Kind) then true else (a.Low != b.Low)) then true else (a.High != b.High)) then true else (a.Size != b.Size)) then true else (!(a.Name == b.Name))) then true else (((a.Names).length:Int) != ((b.Names).length:Int))) then true else (((a.Of).length:Int) != ((b.Of).length:Int)))=true then
  some false
 else
  Sa a b 0
 partial_fixpoint
def Sa (a:D0)(b:D0)(i:Int):Option Bool:=
 if (decide (i < ((a.Names).length:Int)))=true then
  idx a.Names i>>=fun x1=>
  idx b.Names i>>=fun x2=>
  if (!(x1 == x2))=true then
   some false
  else
   Sa a b (IntKind.i64.wrap (i+1))
 else
  E8 a b 0
 partial_fixpoint
def E8 (a:D0)(b:D0)(i1:Int):Option Bool:=
 if (decide (i1 < ((a.Of).length:Int)))=true then
  idx a.Of i1>>=fun x3=>
  idx b.Of i1>>=fun x4=>
  G9 x3 x4>>=fun x5=>
  if (!x5)=true then
   some false
  else
   E8 a b (IntKind.i64.wrap (i1+1))
 else
  some true
 partial_fixpoint
end
abbrev Qs (a:D0)(b:D0)(res:Bool):Prop:=O0 C 25 [.agg (D0.cells a),.agg (D0.cells b)] [] (Ret [] (.d (.bool res)))
abbrev H10 (a:D0)(b:D0)(i:Int)(res:Bool):Prop:=LM C 95 0 Tryz.f25 [1,1,0,1,4] [(2,.ref 0 0),(3,.ref 1 0),(5,.d (.int .i64 i))] [.row (D0.cells a) 48,.row (D0.cells b) 48] (Ret [] (.d (.bool res)))
abbrev I10 (a:D0)(b:D0)(i1:Int)(res:Bool):Prop:=LM C 95 0 Tryz.f25 [1,1,1,0,1,4] [(2,.ref 0 0),(3,.ref 1 0),(6,.d (.int .i64 i1))] [.row (D0.cells a) 48,.row (D0.cells b) 48] (Ret [] (.d (.bool res)))
theorem H12:(∀ a b res,G9 a b=some res→Qs a b res)∧(∀ a b i res,Sa a b i=some res→H10 a b i res)∧(∀ a b i1 res,E8 a b i1=some res→I10 a b i1 res):=by
 refine G9.mutual_partial_correctness _ _ _ ?_ ?_ ?_
 ·intro g1 ih1 a b res hh
  refine O0.intro hC Tryz.func25 rfl rfl rfl (s' rfl rfl (L0.n hC rfl (L0.n hC rfl (e' rfl (S' (sg' 51 rfl (G' 7 rfl (a1' rfl (a0' rfl (a1' rfl (a2' rfl (po' rfl (G' 2 rfl ?_)))))))))))))
  refine a1' rfl (a0' rfl (a1' rfl (a2' rfl (po' rfl (G' 2 rfl (a1' rfl (a0' rfl (a1' rfl (a2' rfl (po' rfl (G' 2 rfl (a1' rfl (a0' rfl ?_)))))))))))))
  refine a1' rfl (a2' rfl (po' rfl (G' 2 rfl (a1' rfl (AG.qe hC rfl (fun hg=>⟨⟨hg,trivial⟩,trivial⟩) (estr.lenA _) (a0' rfl (a1' rfl (AG.qe hC rfl (fun hg=>⟨⟨hg,trivial⟩,trivial⟩) (estr.lenA _) (a2' rfl (po' rfl (G' 2 rfl (a1' rfl (AG.qe hC rfl (fun hg=>⟨⟨hg,trivial⟩,trivial⟩) (D0.lenA _) ?_)))))))))))))
  refine a0' rfl (a1' rfl (AG.qe hC rfl (fun hg=>⟨⟨hg,trivial⟩,trivial⟩) (D0.lenA _) (a2' rfl (po' rfl (an' (n' (ci' rfl hh (fun hh=>?_) (fun hh=>?_))))))))
  ·cases hh
   exact t' rfl (re' (rt' rfl rfl rfl))
  exact sk' (S' (t' rfl (bk' (fw' (ih1 _ _ _ _ hh) rfl rfl rfl))))
 ·intro g1 g2 ih1 ih2 a b i res hh
  refine D1.unroll (S' (p' 3 rfl (qe' rfl trivial (estr.lenA _) (e' rfl (ci' rfl hh (fun hh=>?_) (fun hh=>?_))))))
  ·obtain ⟨x1,hx1,hh⟩:=bs' hh
   obtain ⟨x2,hx2,hh⟩:=bs' hh
   refine sk' (S' (bk' (S' (AEx.draw hC 11 rfl rfl rfl (O' 3 rfl (AQ.i hC rfl (T0 hx1) (estr.idx hx1) rfl (O' 4 rfl (AQ.i hC rfl (T0 hx2) (estr.idx hx2) rfl (E' rfl (n' (ci' rfl hh (fun hh=>?_) (fun hh=>?_))))))))))))
   ·cases hh
    exact t' rfl (re' (rt' rfl rfl rfl))
   exact sk' (T' rfl (lw' (ih1 _ _ _ _ hh) rfl rfl rfl))
  exact ex' (S' (t' rfl (bk' (fw' (ih2 _ _ _ _ hh) rfl rfl rfl))))
 ·intro g0 g2 ih0 ih2 a b i1 res hh
  refine D1.unroll (S' (p' 3 rfl (qe' rfl trivial (D0.lenA _) (e' rfl (ci' rfl hh (fun hh=>?_) (fun hh=>?_))))))
  ·obtain ⟨x3,hx3,hh⟩:=bs' hh
   obtain ⟨x4,hx4,hh⟩:=bs' hh
   obtain ⟨x5,hx5,hh⟩:=bs' hh
   refine sk' (S' (bk' (S' (AEx.draw hC 12 rfl rfl rfl (O' 3 rfl (AQ.i hC rfl (T0 hx3) (D0.idx hx3) rfl (O' 4 rfl (AQ.i hC rfl (T0 hx4) (D0.idx hx4) rfl (Q' rfl (Qc' (ih0 _ _ _ hx5) rfl rfl (E' rfl (n' (ci' rfl hh (fun hh=>?_) (fun hh=>?_))))))))))))))
   ·cases hh
    exact t' rfl (re' (rt' rfl rfl rfl))
   exact sk' (T' rfl (lw' (ih2 _ _ _ _ hh) rfl rfl rfl))
  cases hh
  exact ex' (t' rfl (re' (rt' rfl rfl rfl)))
theorem Z13 {a b res}(hh:G9 a b=some res):Qs a b res:=(H12).1 _ _ _ hh
def Sj (t:D0):Option Bool:=
 G9 t (D0.mk 0 0 0 0 [] [] [])>>=fun x1=>
 some x1
theorem T15 {t res}(hh:Sj t=some res):O0 C 211 [.agg (D0.cells t)] [] (Ret [] (.d (.bool res))):=by
 unfold Sj at hh
 obtain ⟨x1,hx1,hh⟩:=bs' hh
 cases hh
 exact O0.intro hC Tryz.func211 rfl rfl rfl (s' rfl rfl (L0.n hC rfl (e' rfl (p' 2 rfl (c' (Z13 hx1) rfl rfl (e' rfl (re' (rt' rfl rfl rfl))))))))
mutual
def H9 (t:D0):Option Int:=
 Ta t 1 0
 partial_fixpoint
def Ta (t:D0)(n:Int)(i:Int):Option Int:=
 if (decide (i < ((t.Of).length:Int)))=true then
  idx t.Of i>>=fun x1=>
  H9 x1>>=fun x2=>
  Ta t (IntKind.i64.wrap (n+x2)) (IntKind.i64.wrap (i+1))
 else
  some n
 partial_fixpoint
end
abbrev Rs (t:D0)(res:Int):Prop:=O0 C 212 [.agg (D0.cells t)] [] (Ret [] (.d (.int .i64 res)))
abbrev J10 (t:D0)(n:Int)(i:Int)(res:Int):Prop:=LM C 21 0 Tryz.f212 [1,1,0,1,4] [(1,.ref 0 0),(3,.d (.int .i64 n)),(4,.d (.int .i64 i))] [.row (D0.cells t) 48] (Ret [] (.d (.int .i64 res)))
theorem I12:(∀ t res,H9 t=some res→Rs t res)∧(∀ t n i res,Ta t n i=some res→J10 t n i res):=by
 refine H9.mutual_partial_correctness _ _ ?_ ?_
 ·intro g1 ih1 t res hh
  exact O0.intro hC Tryz.func212 rfl rfl rfl (s' rfl rfl (L0.n hC rfl (e' rfl (t' rfl (S' (t' rfl (bk' (fw' (ih1 _ _ _ _ hh) rfl rfl rfl))))))))
 ·intro g0 g1 ih0 ih1 t n i res hh
  refine D1.unroll (S' (p' 3 rfl (qe' rfl trivial (D0.lenA _) (e' rfl (ci' rfl hh (fun hh=>?_) (fun hh=>?_))))))
  ·obtain ⟨x1,hx1,hh⟩:=bs' hh
   obtain ⟨x2,hx2,hh⟩:=bs' hh
   exact sk' (S' (bk' (P' 4 rfl (i' rfl (T0 hx1) (D0.idx hx1) rfl (q' rfl (c' (ih0 _ _ hx2) rfl rfl (e' rfl (T' rfl (lw' (ih1 _ _ _ _ hh) rfl rfl rfl)))))))))
  cases hh
  exact ex' (t' rfl (re' (rt' rfl rfl rfl)))
theorem A14 {t res}(hh:H9 t=some res):Rs t res:=(I12).1 _ _ hh
mutual
def I9 (t:D0):Option Int:=
 F8 t 0 0
 partial_fixpoint
def F8 (t:D0)(d:Int)(i:Int):Option Int:=
 if (decide (i < ((t.Of).length:Int)))=true then
  idx t.Of i>>=fun x1=>
  I9 x1>>=fun x2=>
  if (decide (x2 > d))=true then
   F8 t x2 (IntKind.i64.wrap (i+1))
  else
   F8 t d (IntKind.i64.wrap (i+1))
 else
  some (IntKind.i64.wrap (d+1))
 partial_fixpoint
end
abbrev Ss (t:D0)(res:Int):Prop:=O0 C 213 [.agg (D0.cells t)] [] (Ret [] (.d (.int .i64 res)))
abbrev K10 (t:D0)(d:Int)(i:Int)(res:Int):Prop:=LM C 25 0 Tryz.f213 [1,1,0,1,4] [(1,.ref 0 0),(3,.d (.int .i64 d)),(4,.d (.int .i64 i))] [.row (D0.cells t) 48] (Ret [] (.d (.int .i64 res)))
theorem J12:(∀ t res,I9 t=some res→Ss t res)∧(∀ t d i res,F8 t d i=some res→K10 t d i res):=by
 refine I9.mutual_partial_correctness _ _ ?_ ?_
 ·intro g1 ih1 t res hh
  exact O0.intro hC Tryz.func213 rfl rfl rfl (s' rfl rfl (L0.n hC rfl (e' rfl (t' rfl (S' (t' rfl (bk' (fw' (ih1 _ _ _ _ hh) rfl rfl rfl))))))))
 ·intro g0 g1 ih0 ih1 t d i res hh
  refine D1.unroll (S' (p' 3 rfl (qe' rfl trivial (D0.lenA _) (e' rfl (ci' rfl hh (fun hh=>?_) (fun hh=>?_))))))
  ·obtain ⟨x1,hx1,hh⟩:=bs' hh
   obtain ⟨x2,hx2,hh⟩:=bs' hh
   refine sk' (S' (bk' (p' 3 rfl (i' rfl (T0 hx1) (D0.idx hx1) rfl (q' rfl (c' (ih0 _ _ hx2) rfl rfl (e' rfl (t' rfl (ci' rfl hh (fun hh=>?_) (fun hh=>?_))))))))))
   ·exact T' rfl (T' rfl (lw' (ih1 _ _ _ _ hh) rfl rfl rfl))
   exact sk' (T' rfl (lw' (ih1 _ _ _ _ hh) rfl rfl rfl))
  cases hh
  exact ex' (t' rfl (re' (rt' rfl rfl rfl)))
theorem B14 {t res}(hh:I9 t=some res):Ss t res:=(J12).1 _ _ hh
def J7 (s:P0)(d:Int):Option P0:=
 if (decide (d > s.depth))=true then
  some (P0.mk s.nodes d)
 else
  some s
theorem Hk {s d res}(hh:J7 s d=some res):O0 C 204 [.agg (P0.cells s),.d (.int .i64 d)] [] (Ret [] (.agg (P0.cells res))):=by
 unfold J7 at hh
 refine O0.intro hC Tryz.func204 rfl rfl rfl (s' rfl rfl (L0.n hC rfl (L0.n hC rfl (n' (S' (t' rfl (ci' rfl hh (fun hh=>?_) (fun hh=>?_))))))))
 ·cases hh
  exact P' 2 rfl (L0.s hC rfl (n' (p' 1 rfl (L0.s hC rfl (n' (re' (rt' rfl rfl rfl)))))))
 cases hh
 exact sk' (p' 1 rfl (L0.s hC rfl (n' (re' (rt' rfl rfl rfl)))))
def Tk (s:P0)(t:D0)(used:Bool):Option P0:=
 (if (!used)=true then Sj t else some default)>>=fun x1=>
 if (bif (!used) then x1 else false)=true then
  some s
 else
  H9 t>>=fun x2=>
  I9 t>>=fun x3=>
  J7 (P0.mk (IntKind.i64.wrap (s.nodes+x2)) s.depth) x3>>=fun x4=>
  some x4
theorem C17 {s t used res}(hh:Tk s t used=some res):O0 C 134 [.agg (P0.cells s),.agg (D0.cells t),.d (.bool used)] [] (Ret [] (.agg (P0.cells res))):=by
 unfold Tk at hh
 obtain ⟨x1,hx1,hh⟩:=bs' hh
 refine O0.intro hC Tryz.func134 rfl rfl rfl (s' rfl rfl (L0.n hC rfl (L0.n hC rfl (L0.n hC rfl (n' (S' (sg' 6 rfl (G' 4 rfl (AG.c rfl rfl (fun hg=>⟨hg,trivial⟩) (fun hw=>T15 (W1 hw hx1)) (pa' rfl (an' (n' (ci' rfl hh (fun hh=>?_) (fun hh=>?_))))))))))))))
 ·cases hh
  exact p' 1 rfl (L0.s hC rfl (n' (re' (rt' rfl rfl rfl))))
 obtain ⟨x2,hx2,hh⟩:=bs' hh
 obtain ⟨x3,hx3,hh⟩:=bs' hh
 obtain ⟨x4,hx4,hh⟩:=bs' hh
 cases hh
 refine sk' (S' (AEx.draw hC 6 rfl rfl rfl (O' 3 rfl (Qc' (A14 hx2) rfl rfl (E' rfl (L0.s hC rfl (n' (S' (AEx.draw hC 4 rfl rfl rfl (O' 2 rfl (Qc' (B14 hx3) rfl rfl (Qc' (Hk hx4) rfl rfl (Qn' ?_)))))))))))))
 exact L0.s hC rfl (n' (re' (rt' rfl rfl rfl)))
def Uf (k:Int):Option Bool:=
 some (bif (k == 5) then true else (k == 6))
theorem Nl {k res}(hh:Uf k=some res):O0 C 182 [.d (.int .i64 k)] [] (Ret [] (.d (.bool res))):=by
 unfold Uf at hh
 cases hh
 exact O0.intro hC Tryz.func182 rfl rfl rfl (t' rfl (sg' 7 rfl (G' 4 rfl (a1' rfl (po' rfl (a0' rfl (an' (n' (re' (rt' rfl rfl rfl))))))))))
mutual
def J9 (a:A0)(b:A0):Option Bool:=
 if (bif (bif (bif (a.Op != b.Op) then true else (a.NV != b.NV)) then true else (!(a.Name == b.Name))) then true else (((a.Kids).length:Int) != ((b.Kids).length:Int)))=true then
  some false
 else
  Ua a b 0
 partial_fixpoint
def Ua (a:A0)(b:A0)(i:Int):Option Bool:=
 if (decide (i < ((a.Kids).length:Int)))=true then
  idx a.Kids i>>=fun x1=>
  idx b.Kids i>>=fun x2=>
  J9 x1 x2>>=fun x3=>
  if (!x3)=true then
   some false
  else
   Ua a b (IntKind.i64.wrap (i+1))
 else
  some true
 partial_fixpoint
end
abbrev Ts (a:A0)(b:A0)(res:Bool):Prop:=O0 C 22 [.agg (A0.cells a),.agg (A0.cells b)] [] (Ret [] (.d (.bool res)))
abbrev L10 (a:A0)(b:A0)(i:Int)(res:Bool):Prop:=LM C 53 0 Tryz.f22 [1,1,0,1,4] [(2,.ref 0 0),(3,.ref 1 0),(5,.d (.int .i64 i))] [.row (A0.cells a) 40,.row (A0.cells b) 40] (Ret [] (.d (.bool res)))
theorem K12:(∀ a b res,J9 a b=some res→Ts a b res)∧(∀ a b i res,Ua a b i=some res→L10 a b i res):=by
 refine J9.mutual_partial_correctness _ _ ?_ ?_
 ·intro g1 ih1 a b res hh
  refine O0.intro hC Tryz.func22 rfl rfl rfl (s' rfl rfl (L0.n hC rfl (L0.n hC rfl (e' rfl (S' (sg' 28 rfl (G' 7 rfl (a1' rfl (a0' rfl (a1' rfl (a2' rfl (po' rfl (G' 2 rfl ?_)))))))))))))
  refine a1' rfl (a0' rfl (a1' rfl (a2' rfl (po' rfl (G' 2 rfl (a1' rfl (AG.qe hC rfl (fun hg=>⟨⟨hg,trivial⟩,trivial⟩) (A0.lenA _) (a0' rfl (a1' rfl (AG.qe hC rfl (fun hg=>⟨⟨hg,trivial⟩,trivial⟩) (A0.lenA _) (a2' rfl (po' rfl (an' ?_)))))))))))))
  refine n' (ci' rfl hh (fun hh=>?_) (fun hh=>?_))
  ·cases hh
   exact t' rfl (re' (rt' rfl rfl rfl))
  exact sk' (S' (t' rfl (bk' (fw' (ih1 _ _ _ _ hh) rfl rfl rfl))))
 ·intro g0 g1 ih0 ih1 a b i res hh
  refine D1.unroll (S' (p' 3 rfl (qe' rfl trivial (A0.lenA _) (e' rfl (ci' rfl hh (fun hh=>?_) (fun hh=>?_))))))
  ·obtain ⟨x1,hx1,hh⟩:=bs' hh
   obtain ⟨x2,hx2,hh⟩:=bs' hh
   obtain ⟨x3,hx3,hh⟩:=bs' hh
   refine sk' (S' (bk' (S' (AEx.draw hC 12 rfl rfl rfl (O' 3 rfl (AQ.i hC rfl (T0 hx1) (A0.idx hx1) rfl (O' 4 rfl (AQ.i hC rfl (T0 hx2) (A0.idx hx2) rfl (Q' rfl (Qc' (ih0 _ _ _ hx3) rfl rfl (E' rfl (n' (ci' rfl hh (fun hh=>?_) (fun hh=>?_))))))))))))))
   ·cases hh
    exact t' rfl (re' (rt' rfl rfl rfl))
   exact sk' (T' rfl (lw' (ih1 _ _ _ _ hh) rfl rfl rfl))
  cases hh
  exact ex' (t' rfl (re' (rt' rfl rfl rfl)))
theorem C14 {a b res}(hh:J9 a b=some res):Ts a b res:=(K12).1 _ _ _ hh
def Wa (e:A0):Option Bool:=
 J9 e (A0.mk 0 0 [] [])>>=fun x1=>
 some x1
theorem Xi {e res}(hh:Wa e=some res):O0 C 183 [.agg (A0.cells e)] [] (Ret [] (.d (.bool res))):=by
 unfold Wa at hh
 obtain ⟨x1,hx1,hh⟩:=bs' hh
 cases hh
 exact O0.intro hC Tryz.func183 rfl rfl rfl (s' rfl rfl (L0.n hC rfl (e' rfl (p' 2 rfl (c' (C14 hx1) rfl rfl (e' rfl (re' (rt' rfl rfl rfl))))))))
mutual
def K9 (e:A0):Option Int:=
 Xa e 1 0
 partial_fixpoint
def Xa (e:A0)(n:Int)(i:Int):Option Int:=
 if (decide (i < ((e.Kids).length:Int)))=true then
  idx e.Kids i>>=fun x1=>
  K9 x1>>=fun x2=>
  Xa e (IntKind.i64.wrap (n+x2)) (IntKind.i64.wrap (i+1))
 else
  some n
 partial_fixpoint
end
abbrev Us (e:A0)(res:Int):Prop:=O0 C 203 [.agg (A0.cells e)] [] (Ret [] (.d (.int .i64 res)))
abbrev M10 (e:A0)(n:Int)(i:Int)(res:Int):Prop:=LM C 21 0 Tryz.f203 [1,1,0,1,4] [(1,.ref 0 0),(3,.d (.int .i64 n)),(4,.d (.int .i64 i))] [.row (A0.cells e) 40] (Ret [] (.d (.int .i64 res)))
theorem L12:(∀ e res,K9 e=some res→Us e res)∧(∀ e n i res,Xa e n i=some res→M10 e n i res):=by
 refine K9.mutual_partial_correctness _ _ ?_ ?_
 ·intro g1 ih1 e res hh
  exact O0.intro hC Tryz.func203 rfl rfl rfl (s' rfl rfl (L0.n hC rfl (e' rfl (t' rfl (S' (t' rfl (bk' (fw' (ih1 _ _ _ _ hh) rfl rfl rfl))))))))
 ·intro g0 g1 ih0 ih1 e n i res hh
  refine D1.unroll (S' (p' 3 rfl (qe' rfl trivial (A0.lenA _) (e' rfl (ci' rfl hh (fun hh=>?_) (fun hh=>?_))))))
  ·obtain ⟨x1,hx1,hh⟩:=bs' hh
   obtain ⟨x2,hx2,hh⟩:=bs' hh
   exact sk' (S' (bk' (P' 4 rfl (i' rfl (T0 hx1) (A0.idx hx1) rfl (q' rfl (c' (ih0 _ _ hx2) rfl rfl (e' rfl (T' rfl (lw' (ih1 _ _ _ _ hh) rfl rfl rfl)))))))))
  cases hh
  exact ex' (t' rfl (re' (rt' rfl rfl rfl)))
theorem D14 {e res}(hh:K9 e=some res):Us e res:=(L12).1 _ _ hh
end Go.Proofs.YtbmlpamppbcdeaaGreatDoor

set_option maxRecDepth 100000
set_option maxHeartbeats 4000000
set_option synthInstance.maxSize 20000
set_option linter.unusedVariables false
namespace Go.Proofs.YtbmlpamppbcdeaaGreatDoor
open Go.Am
mutual
def L9 (e:A0):Option Int:=
 G8 e 0 0
 partial_fixpoint
def G8 (e:A0)(d:Int)(i:Int):Option Int:=
 if (decide (i < ((e.Kids).length:Int)))=true then
  idx e.Kids i>>=fun x1=>
  L9 x1>>=fun x2=>
  if (decide (x2 > d))=true then
   G8 e x2 (IntKind.i64.wrap (i+1))
  else
   G8 e d (IntKind.i64.wrap (i+1))
 else
  some (IntKind.i64.wrap (d+1))
 partial_fixpoint
end
abbrev Vs (e:A0)(res:Int):Prop:=O0 C 205 [.agg (A0.cells e)] [] (Ret [] (.d (.int .i64 res)))
abbrev N10 (e:A0)(d:Int)(i:Int)(res:Int):Prop:=LM C 25 0 Tryz.f205 [1,1,0,1,4] [(1,.ref 0 0),(3,.d (.int .i64 d)),(4,.d (.int .i64 i))] [.row (A0.cells e) 40] (Ret [] (.d (.int .i64 res)))
theorem M12:(∀ e res,L9 e=some res→Vs e res)∧(∀ e d i res,G8 e d i=some res→N10 e d i res):=by
 refine L9.mutual_partial_correctness _ _ ?_ ?_
 ·intro g1 ih1 e res hh
  exact O0.intro hC Tryz.func205 rfl rfl rfl (s' rfl rfl (L0.n hC rfl (e' rfl (t' rfl (S' (t' rfl (bk' (fw' (ih1 _ _ _ _ hh) rfl rfl rfl))))))))
 ·intro g0 g1 ih0 ih1 e d i res hh
  refine D1.unroll (S' (p' 3 rfl (qe' rfl trivial (A0.lenA _) (e' rfl (ci' rfl hh (fun hh=>?_) (fun hh=>?_))))))
  ·obtain ⟨x1,hx1,hh⟩:=bs' hh
   obtain ⟨x2,hx2,hh⟩:=bs' hh
   refine sk' (S' (bk' (p' 3 rfl (i' rfl (T0 hx1) (A0.idx hx1) rfl (q' rfl (c' (ih0 _ _ hx2) rfl rfl (e' rfl (t' rfl (ci' rfl hh (fun hh=>?_) (fun hh=>?_))))))))))
   ·exact T' rfl (T' rfl (lw' (ih1 _ _ _ _ hh) rfl rfl rfl))
   exact sk' (T' rfl (lw' (ih1 _ _ _ _ hh) rfl rfl rfl))
  cases hh
  exact ex' (t' rfl (re' (rt' rfl rfl rfl)))
theorem E14 {e res}(hh:L9 e=some res):Vs e res:=(M12).1 _ _ hh
def Ga (s:P0)(e:A0)(used:Bool):Option P0:=
 (if (!used)=true then Wa e else some default)>>=fun x1=>
 if (bif (!used) then x1 else false)=true then
  some s
 else
  K9 e>>=fun x2=>
  L9 e>>=fun x3=>
  J7 (P0.mk (IntKind.i64.wrap (s.nodes+x2)) s.depth) x3>>=fun x4=>
  some x4
theorem Ik {s e used res}(hh:Ga s e used=some res):O0 C 123 [.agg (P0.cells s),.agg (A0.cells e),.d (.bool used)] [] (Ret [] (.agg (P0.cells res))):=by
 unfold Ga at hh
 obtain ⟨x1,hx1,hh⟩:=bs' hh
 refine O0.intro hC Tryz.func123 rfl rfl rfl (s' rfl rfl (L0.n hC rfl (L0.n hC rfl (L0.n hC rfl (n' (S' (sg' 6 rfl (G' 4 rfl (AG.c rfl rfl (fun hg=>⟨hg,trivial⟩) (fun hw=>Xi (W1 hw hx1)) (pa' rfl (an' (n' (ci' rfl hh (fun hh=>?_) (fun hh=>?_))))))))))))))
 ·cases hh
  exact p' 1 rfl (L0.s hC rfl (n' (re' (rt' rfl rfl rfl))))
 obtain ⟨x2,hx2,hh⟩:=bs' hh
 obtain ⟨x3,hx3,hh⟩:=bs' hh
 obtain ⟨x4,hx4,hh⟩:=bs' hh
 cases hh
 refine sk' (S' (AEx.draw hC 6 rfl rfl rfl (O' 3 rfl (Qc' (D14 hx2) rfl rfl (E' rfl (L0.s hC rfl (n' (S' (AEx.draw hC 4 rfl rfl rfl (O' 2 rfl (Qc' (E14 hx3) rfl rfl (Qc' (Hk hx4) rfl rfl (Qn' ?_)))))))))))))
 exact L0.s hC rfl (n' (re' (rt' rfl rfl rfl)))
def Wf (v:Int):Option Bool:=
 some (bif (bif (v == 0) then true else (v == 1)) then true else (v == 2))
theorem Ol {v res}(hh:Wf v=some res):O0 C 184 [.d (.int .i64 v)] [] (Ret [] (.d (.bool res))):=by
 unfold Wf at hh
 cases hh
 exact O0.intro hC Tryz.func184 rfl rfl rfl (t' rfl (sg' 11 rfl (G' 4 rfl (a1' rfl (po' rfl (G' 2 rfl (a1' rfl (po' rfl (a0' rfl (an' (n' (re' (rt' rfl rfl rfl)))))))))))))
def Xf (v:Int):Option Bool:=
 some (bif (bif (bif (v == 0) then true else (v == 3)) then true else (v == 5)) then true else (v == 6))
theorem Pl {v res}(hh:Xf v=some res):O0 C 186 [.d (.int .i64 v)] [] (Ret [] (.d (.bool res))):=by
 unfold Xf at hh
 cases hh
 refine O0.intro hC Tryz.func186 rfl rfl rfl (t' rfl (sg' 15 rfl (G' 4 rfl (a1' rfl (po' rfl (G' 2 rfl (a1' rfl (po' rfl (G' 2 rfl (a1' rfl (po' rfl (a0' rfl (an' ?_)))))))))))))
 exact n' (re' (rt' rfl rfl rfl))
mutual
def R8 (s:P0)(l:List C0)(d:Int):Option P0:=
 Xc l d s 0
 partial_fixpoint
def Xc (l:List C0)(d:Int)(o01:P0)(i:Int):Option P0:=
 if (decide (i < ((l).length:Int)))=true then
  idx l i>>=fun x1=>
  J7 (P0.mk (IntKind.i64.wrap (o01.nodes+1)) o01.depth) d>>=fun x2=>
  Wf x1.Verb>>=fun x3=>
  Ga x2 x1.Place x3>>=fun x4=>
  Xf x1.Verb>>=fun x5=>
  Ga x4 x1.Value x5>>=fun x6=>
  Hg l d x6 x1 i 0
 else
  some o01
 partial_fixpoint
def Hg (l:List C0)(d:Int)(o0:P0)(x1:C0)(i1:Int)(k:Int):Option P0:=
 if (decide (k < ((x1.Args).length:Int)))=true then
  idx x1.Args k>>=fun x7=>
  Ga o0 x7 true>>=fun x8=>
  Hg l d x8 x1 i1 (IntKind.i64.wrap (k+1))
 else
  R8 o0 x1.Then (IntKind.i64.wrap (d+1))>>=fun x9=>
  R8 x9 x1.Else (IntKind.i64.wrap (d+1))>>=fun x10=>
  Xc l d x10 (IntKind.i64.wrap (i1+1))
 partial_fixpoint
end
abbrev Jv (s:P0)(l:List C0)(d:Int)(res:P0):Prop:=O0 C 179 [.agg (P0.cells s),.d (.sl (C0.rows l)),.d (.int .i64 d)] [] (Ret [] (.agg (P0.cells res)))
abbrev N12 (l:List C0)(d:Int)(o01:P0)(i:Int)(res:P0):Prop:=LM C 68 0 Tryz.f179 [1,0,1,4] [(1,.d (.sl (C0.rows l))),(2,.d (.int .i64 d)),(3,.ref 0 0),(6,.ref 1 0),(7,.d (.int .i64 i))] [.row (P0.cells o01) 148,.row [.d (.int .i64 0),.d (.int .i64 0)] 148] (Ret [] (.agg (P0.cells res)))
abbrev O12 (l:List C0)(d:Int)(o0:P0)(x1:C0)(i1:Int)(k:Int)(res:P0):Prop:=LM C 68 0 Tryz.f179 [1,0,1,4,5,1,0,4,1,1,1,1,1,0,1,4] [(1,.d (.sl (C0.rows l))),(2,.d (.int .i64 d)),(3,.ref 0 0),(6,.ref 1 0),(7,.d (.int .i64 i1)),(8,.ref 2 0),(9,.d (.int .i64 k))] [.row (P0.cells o0) 148,.row [.d (.int .i64 0),.d (.int .i64 0)] 148,.row (C0.cells x1) 79] (Ret [] (.agg (P0.cells res)))
theorem F14:(∀ s l d res,R8 s l d=some res→Jv s l d res)∧(∀ l d o01 i res,Xc l d o01 i=some res→N12 l d o01 i res)∧(∀ l d o0 x1 i1 k res,Hg l d o0 x1 i1 k=some res→O12 l d o0 x1 i1 k res):=by
 refine R8.mutual_partial_correctness _ _ _ ?_ ?_ ?_
 ·intro g1 ih1 s l d res hh
  exact O0.intro hC Tryz.func179 rfl rfl rfl (s' rfl rfl (L0.n hC rfl (L0.n hC rfl (n' (S' (t' rfl (bk' (fw' (ih1 _ _ _ _ _ hh) rfl rfl rfl))))))))
 ·intro g2 ih2 l d o01 i res hh
  refine D1.unroll (S' (p' 2 rfl (qe' rfl trivial (C0.lenA _) (e' rfl (ci' rfl hh (fun hh=>?_) (fun hh=>?_))))))
  ·obtain ⟨x1,hx1,hh⟩:=bs' hh
   obtain ⟨x2,hx2,hh⟩:=bs' hh
   obtain ⟨x3,hx3,hh⟩:=bs' hh
   obtain ⟨x4,hx4,hh⟩:=bs' hh
   obtain ⟨x5,hx5,hh⟩:=bs' hh
   obtain ⟨x6,hx6,hh⟩:=bs' hh
   refine sk' (S' (bk' (p' 2 rfl (i' rfl (T0 hx1) (C0.idx hx1) rfl (q' rfl (L0.nf hC rfl (L0.s hC rfl (n' (p' 4 rfl (L0.s hC rfl (n' (p' 2 rfl (c' (Hk hx2) rfl rfl ?_)))))))))))))
   refine L0.s hC rfl (n' (S' (AEx.draw hC 7 rfl rfl rfl (O' 5 rfl (Qc' (Ol hx3) rfl rfl (Qc' (Ik hx4) rfl rfl (Qn' (L0.s hC rfl (n' (S' (AEx.draw hC 7 rfl rfl rfl (O' 5 rfl (Qc' (Pl hx5) rfl rfl ?_)))))))))))))
   exact Qc' (Ik hx6) rfl rfl (Qn' (L0.s hC rfl (n' (S' (t' rfl (bk' (fw' (ih2 _ _ _ _ _ _ _ hh) rfl rfl rfl)))))))
  cases hh
  exact ex' (p' 1 rfl (L0.s hC rfl (n' (re' (rt' rfl rfl rfl)))))
 ·intro g0 g1 g2 ih0 ih1 ih2 l d o0 x1 i1 k res hh
  refine D1.unroll (S' (p' 3 rfl (qe' rfl trivial (A0.lenA _) (e' rfl (ci' rfl hh (fun hh=>?_) (fun hh=>?_))))))
  ·obtain ⟨x7,hx7,hh⟩:=bs' hh
   obtain ⟨x8,hx8,hh⟩:=bs' hh
   exact sk' (S' (bk' (AEx.draw hC 7 rfl rfl rfl (O' 4 rfl (AQ.i hC rfl (T0 hx7) (A0.idx hx7) rfl (Q' rfl (Qc' (Ik hx8) rfl rfl (Qn' (L0.s hC rfl (n' (T' rfl (lw' (ih2 _ _ _ _ _ _ _ hh) rfl rfl rfl))))))))))))
  obtain ⟨x9,hx9,hh⟩:=bs' hh
  obtain ⟨x10,hx10,hh⟩:=bs' hh
  exact ex' (p' 5 rfl (c' (ih0 _ _ _ _ hx9) rfl rfl (L0.s hC rfl (n' (P' 5 rfl (c' (ih0 _ _ _ _ hx10) rfl rfl (L0.s hC rfl (n' (T' rfl (lw' (ih1 _ _ _ _ _ hh) rfl rfl rfl))))))))))
theorem Ws {s l d res}(hh:R8 s l d=some res):Jv s l d res:=(F14).1 _ _ _ _ hh
mutual
def Ya (s:P0)(l:List F0):Option P0:=
 Yc l s 0
 partial_fixpoint
def Yc (l:List F0)(o0:P0)(i:Int):Option P0:=
 if (decide (i < ((l).length:Int)))=true then
  idx l i>>=fun x1=>
  Rj x1.Kind>>=fun x2=>
  Tk (P0.mk (IntKind.i64.wrap (o0.nodes+1)) o0.depth) x1.TypeV x2>>=fun x3=>
  Uf x1.Kind>>=fun x4=>
  Ga x3 x1.Value x4>>=fun x5=>
  Ya x5 x1.Params>>=fun x6=>
  Ya x6 x1.Vars>>=fun x7=>
  R8 x7 x1.Body 1>>=fun x8=>
  Yc l x8 (IntKind.i64.wrap (i+1))
 else
  some o0
 partial_fixpoint
end
abbrev Kv (s:P0)(l:List F0)(res:P0):Prop:=O0 C 180 [.agg (P0.cells s),.d (.sl (F0.rows l))] [] (Ret [] (.agg (P0.cells res)))
abbrev P12 (l:List F0)(o0:P0)(i:Int)(res:P0):Prop:=LM C 48 0 Tryz.f180 [1,0,1,4] [(1,.d (.sl (F0.rows l))),(2,.ref 0 0),(4,.ref 1 0),(5,.d (.int .i64 i))] [.row (P0.cells o0) 148,.row [.d (.int .i64 0),.d (.int .i64 0)] 148] (Ret [] (.agg (P0.cells res)))
theorem G14:(∀ s l res,Ya s l=some res→Kv s l res)∧(∀ l o0 i res,Yc l o0 i=some res→P12 l o0 i res):=by
 refine Ya.mutual_partial_correctness _ _ ?_ ?_
 ·intro g1 ih1 s l res hh
  exact O0.intro hC Tryz.func180 rfl rfl rfl (s' rfl rfl (L0.n hC rfl (L0.n hC rfl (n' (S' (t' rfl (bk' (fw' (ih1 _ _ _ _ hh) rfl rfl rfl))))))))
 ·intro g0 g1 ih0 ih1 l o0 i res hh
  refine D1.unroll (S' (p' 2 rfl (qe' rfl trivial (F0.lenA _) (e' rfl (ci' rfl hh (fun hh=>?_) (fun hh=>?_))))))
  ·obtain ⟨x1,hx1,hh⟩:=bs' hh
   obtain ⟨x2,hx2,hh⟩:=bs' hh
   obtain ⟨x3,hx3,hh⟩:=bs' hh
   obtain ⟨x4,hx4,hh⟩:=bs' hh
   obtain ⟨x5,hx5,hh⟩:=bs' hh
   obtain ⟨x6,hx6,hh⟩:=bs' hh
   obtain ⟨x7,hx7,hh⟩:=bs' hh
   obtain ⟨x8,hx8,hh⟩:=bs' hh
   refine sk' (S' (bk' (p' 2 rfl (i' rfl (T0 hx1) (F0.idx hx1) rfl (q' rfl (L0.nf hC rfl (L0.s hC rfl (n' (p' 4 rfl (L0.s hC rfl (n' (S' (AEx.draw hC 7 rfl rfl rfl ?_)))))))))))))
   refine O' 5 rfl (Qc' (Ps hx2) rfl rfl (Qc' (C17 hx3) rfl rfl (Qn' (L0.s hC rfl (n' (S' (AEx.draw hC 7 rfl rfl rfl (O' 5 rfl (Qc' (Nl hx4) rfl rfl (Qc' (Ik hx5) rfl rfl (Qn' (L0.s hC rfl (n' ?_)))))))))))))
   exact p' 3 rfl (c' (ih0 _ _ _ hx6) rfl rfl (L0.s hC rfl (n' (p' 3 rfl (c' (ih0 _ _ _ hx7) rfl rfl (L0.s hC rfl (n' (P' 3 rfl (c' (Ws hx8) rfl rfl (L0.s hC rfl (n' (T' rfl (lw' (ih1 _ _ _ _ hh) rfl rfl rfl)))))))))))))
  cases hh
  exact ex' (p' 1 rfl (L0.s hC rfl (n' (re' (rt' rfl rfl rfl)))))
theorem U15 {s l res}(hh:Ya s l=some res):Kv s l res:=(G14).1 _ _ _ hh
def Xm (p:Q0):Option P0:=
 Ya (P0.mk 0 0) p.Decls>>=fun x1=>
 R8 x1 p.Body 1>>=fun x2=>
 some x2
theorem F1a {p res}(hh:Xm p=some res):O0 C 94 [.agg (Q0.cells p)] [] (Ret [] (.agg (P0.cells res))):=by
 unfold Xm at hh
 obtain ⟨x1,hx1,hh⟩:=bs' hh
 obtain ⟨x2,hx2,hh⟩:=bs' hh
 cases hh
 refine O0.intro hC Tryz.func94 rfl rfl rfl (s' rfl rfl (L0.n hC rfl (L0.n hC rfl (n' (S' (AEx.draw hC 7 rfl rfl rfl (O' 3 rfl (Qc' (U15 hx1) rfl rfl (O' 2 rfl (Qc' (Ws hx2) rfl rfl (Qn' (L0.s hC rfl (n' ?_)))))))))))))
 exact re' (rt' rfl rfl rfl)
mutual
def Za (t:D0):Option Bool:=
 if (bif (decide (t.Kind < 0)) then true else (decide (t.Kind > 4)))=true then
  some false
 else
  if (bif (bif (bif (bif (t.Kind != 1) then (bif (t.Low != 0) then true else (t.High != 0)) else false) then true else (bif (t.Kind != 2) then (t.Size != 0) else false)) then true else (bif (t.Kind != 4) then (!(t.Name == [])) else false)) then true else (bif (t.Kind != 3) then (((t.Names).length:Int) != 0) else false))=true then
   some false
  else
   if (bif (bif (bif (t.Kind == 2) then (((t.Of).length:Int) != 1) else false) then true else (bif (t.Kind == 3) then (bif (decide (((t.Of).length:Int) < 1)) then true else (((t.Of).length:Int) != ((t.Names).length:Int))) else false)) then true else (bif (bif (t.Kind != 2) then (t.Kind != 3) else false) then (((t.Of).length:Int) != 0) else false))=true then
    some false
   else
    Zc t 0
 partial_fixpoint
def Zc (t:D0)(i:Int):Option Bool:=
 if (decide (i < ((t.Of).length:Int)))=true then
  idx t.Of i>>=fun x1=>
  Za x1>>=fun x2=>
  if (!x2)=true then
   some false
  else
   Zc t (IntKind.i64.wrap (i+1))
 else
  some true
 partial_fixpoint
end
abbrev Lv (t:D0)(res:Bool):Prop:=O0 C 135 [.agg (D0.cells t)] [] (Ret [] (.d (.bool res)))
abbrev Q12 (t:D0)(i:Int)(res:Bool):Prop:=LM C 115 0 Tryz.f135 [1,1,1,1,0,1,4] [(1,.ref 0 0),(3,.d (.int .i64 i))] [.row (D0.cells t) 48] (Ret [] (.d (.bool res)))
theorem H14:(∀ t res,Za t=some res→Lv t res)∧(∀ t i res,Zc t i=some res→Q12 t i res):=by
 refine Za.mutual_partial_correctness _ _ ?_ ?_
 ·intro g1 ih1 t res hh
  refine O0.intro hC Tryz.func135 rfl rfl rfl (s' rfl rfl (L0.n hC rfl (e' rfl (S' (sg' 8 rfl (G' 5 rfl (a1' rfl (a1' rfl (po' rfl (an' (n' (ci' rfl hh (fun hh=>?_) (fun hh=>?_)))))))))))))
  ·cases hh
   exact t' rfl (re' (rt' rfl rfl rfl))
  refine sk' (S' (sg' 44 rfl (G' 5 rfl (a1' rfl (a1' rfl (a1' rfl (a0' rfl (a1' rfl (a1' rfl (pO' rfl (pa' rfl (G' 2 rfl (a1' rfl ?_)))))))))))))
  refine a1' rfl (a1' rfl (a0' rfl (a1' rfl (a1' rfl (pA' rfl (po' rfl (G' 2 rfl (a1' rfl (a1' rfl (a1' rfl (a0' rfl (a1' rfl (a1' rfl ?_)))))))))))))
  refine pA' rfl (po' rfl (G' 2 rfl (a1' rfl (a1' rfl (a1' rfl (a0' rfl (a1' rfl (AG.qe hC rfl (fun hg=>⟨⟨hg,trivial⟩,trivial⟩) (estr.lenA _) (a1' rfl (pA' rfl (po' rfl (an' (n' (ci' rfl hh (fun hh=>?_) (fun hh=>?_)))))))))))))))
  ·cases hh
   exact t' rfl (re' (rt' rfl rfl rfl))
  refine sk' (S' (sg' 45 rfl (G' 5 rfl (a1' rfl (AG.qe hC rfl (fun hg=>⟨⟨hg,trivial⟩,trivial⟩) (D0.lenA _) (a1' rfl (pa' rfl (G' 2 rfl (a1' rfl (a1' rfl (a1' rfl (a0' rfl (a1' rfl ?_)))))))))))))
  refine AG.qe hC rfl (fun hg=>⟨⟨hg,trivial⟩,trivial⟩) (D0.lenA _) (a1' rfl (a1' rfl (a0' rfl (a1' rfl (AG.qe hC rfl (fun hg=>⟨⟨hg,trivial⟩,trivial⟩) (D0.lenA _) (a0' rfl (a1' rfl (AG.qe hC rfl (fun hg=>⟨⟨hg,trivial⟩,trivial⟩) (estr.lenA _) (a2' rfl (pO' rfl (pA' rfl (po' rfl (G' 2 rfl ?_)))))))))))))
  refine a1' rfl (a1' rfl (a1' rfl (a0' rfl (a1' rfl (a1' rfl (pA' rfl (a1' rfl (a0' rfl (a1' rfl (AG.qe hC rfl (fun hg=>⟨⟨hg,trivial⟩,trivial⟩) (D0.lenA _) (a1' rfl (pA' rfl (po' rfl ?_)))))))))))))
  refine an' (n' (ci' rfl hh (fun hh=>?_) (fun hh=>?_)))
  ·cases hh
   exact t' rfl (re' (rt' rfl rfl rfl))
  exact sk' (S' (t' rfl (bk' (fw' (ih1 _ _ _ hh) rfl rfl rfl))))
 ·intro g0 g1 ih0 ih1 t i res hh
  refine D1.unroll (S' (p' 3 rfl (qe' rfl trivial (D0.lenA _) (e' rfl (ci' rfl hh (fun hh=>?_) (fun hh=>?_))))))
  ·obtain ⟨x1,hx1,hh⟩:=bs' hh
   obtain ⟨x2,hx2,hh⟩:=bs' hh
   refine sk' (S' (bk' (p' 3 rfl (i' rfl (T0 hx1) (D0.idx hx1) rfl (q' rfl (c' (ih0 _ _ hx2) rfl rfl (e' rfl (ci' rfl hh (fun hh=>?_) (fun hh=>?_)))))))))
   ·cases hh
    exact t' rfl (re' (rt' rfl rfl rfl))
   exact sk' (T' rfl (lw' (ih1 _ _ _ hh) rfl rfl rfl))
  cases hh
  exact ex' (t' rfl (re' (rt' rfl rfl rfl)))
theorem V15 {t res}(hh:Za t=some res):Lv t res:=(H14).1 _ _ hh
def Ro (o:Int):Option Int:=
 if (bif (bif (bif (o == 0) then true else (o == 1)) then true else (o == 2)) then true else (o == 3))=true then
  some 0
 else
  if (bif (bif (o == 4) then true else (o == 6)) then true else (o == 7))=true then
   some 1
  else
   if (bif (o == 5) then true else (bif (decide (o≥8)) then (decide (o≤22)) else false))=true then
    some 2
   else
    if (o == 23)=true then
     some 3
    else
     some (-1)
theorem A1c {o res}(hh:Ro o=some res):O0 C 206 [.d (.int .i64 o)] [] (Ret [] (.d (.int .i64 res))):=by
 unfold Ro at hh
 refine O0.intro hC Tryz.func206 rfl rfl rfl (t' rfl (S' (sg' 14 rfl (G' 4 rfl (a1' rfl (po' rfl (G' 2 rfl (a1' rfl (po' rfl (G' 2 rfl (a1' rfl (po' rfl (an' ?_)))))))))))))
 refine n' (ci' rfl hh (fun hh=>?_) (fun hh=>?_))
 ·cases hh
  exact t' rfl (re' (rt' rfl rfl rfl))
 refine sk' (S' (sg' 10 rfl (G' 4 rfl (a1' rfl (po' rfl (G' 2 rfl (a1' rfl (po' rfl (an' (n' (ci' rfl hh (fun hh=>?_) (fun hh=>?_))))))))))))
 ·cases hh
  exact t' rfl (re' (rt' rfl rfl rfl))
 refine sk' (S' (sg' 10 rfl (G' 4 rfl (a1' rfl (a1' rfl (a0' rfl (a1' rfl (pA' rfl (po' rfl (an' (n' (ci' rfl hh (fun hh=>?_) (fun hh=>?_)))))))))))))
 ·cases hh
  exact t' rfl (re' (rt' rfl rfl rfl))
 refine sk' (S' (t' rfl (ci' rfl hh (fun hh=>?_) (fun hh=>?_))))
 ·cases hh
  exact t' rfl (re' (rt' rfl rfl rfl))
 cases hh
 exact sk' (t' rfl (re' (rt' rfl rfl rfl)))
def Gd (e:A0):Option Bool:=
 if (e.Op == 3)=true then
  some true
 else
  (if (bif (bif (e.Op == 4) then true else (e.Op == 5)) then (decide (((e.Kids).length:Int) > 0)) else false)=true then idx e.Kids 0 else some default)>>=fun x1=>
  (if (bif (bif (e.Op == 4) then true else (e.Op == 5)) then (decide (((e.Kids).length:Int) > 0)) else false)=true then Gd x1 else some default)>>=fun x2=>
  some (bif (bif (bif (e.Op == 4) then true else (e.Op == 5)) then (decide (((e.Kids).length:Int) > 0)) else false) then x2 else false)
 partial_fixpoint
abbrev Dx (e:A0)(res:Bool):Prop:=O0 C 185 [.agg (A0.cells e)] [] (Ret [] (.d (.bool res)))
theorem W15:(∀ e res,Gd e=some res→Dx e res):=by
 refine Gd.partial_correctness _ ?_
 ·intro g0 ih0 e res hh
  refine O0.intro hC Tryz.func185 rfl rfl rfl (s' rfl rfl (L0.n hC rfl (e' rfl (S' (t' rfl (ci' rfl hh (fun hh=>?_) (fun hh=>?_)))))))
  ·cases hh
   exact t' rfl (re' (rt' rfl rfl rfl))
  obtain ⟨x1,hx1,hh⟩:=bs' hh
  obtain ⟨x2,hx2,hh⟩:=bs' hh
  cases hh
  refine sk' (sg' 22 rfl (G' 5 rfl (a1' rfl (a1' rfl (po' rfl (G' 2 rfl (a1' rfl (AG.qe hC rfl (fun hg=>⟨⟨hg,trivial⟩,trivial⟩) (A0.lenA _) (a1' rfl (pa' rfl (G' 2 rfl (a1' rfl (AG.i hC rfl rfl (fun hg=>⟨hg,trivial⟩) (fun hw=>⟨T0 (W1 hw hx1),A0.idx (W1 hw hx1),rfl⟩) ?_)))))))))))))
  exact a1' rfl (AG.c rfl rfl (fun hg=>⟨hg,trivial⟩) (fun hw=>ih0 _ _ (W1 hw hx2)) (pa' rfl (a0' rfl (an' (n' (re' (rt' rfl rfl rfl)))))))
theorem Mv {e res}(hh:Gd e=some res):Dx e res:=(W15) _ _ hh
mutual
def Z4 (e:A0):Option Bool:=
 Ro e.Op>>=fun x1=>
 if (bif (bif (x1 != ((e.Kids).length:Int)) then true else (bif (e.Op != 0) then (e.NV != 0) else false)) then true else (bif (bif (e.Op != 3) then (e.Op != 4) else false) then (!(e.Name == [])) else false))=true then
  some false
 else
  (if (bif (e.Op == 4) then true else (e.Op == 5))=true then Gd e else some default)>>=fun x2=>
  if (bif (bif (e.Op == 4) then true else (e.Op == 5)) then (!x2) else false)=true then
   some false
  else
   Ad e 0
 partial_fixpoint
def Ad (e:A0)(i:Int):Option Bool:=
 if (decide (i < ((e.Kids).length:Int)))=true then
  idx e.Kids i>>=fun x3=>
  Z4 x3>>=fun x4=>
  if (!x4)=true then
   some false
  else
   Ad e (IntKind.i64.wrap (i+1))
 else
  some true
 partial_fixpoint
end
abbrev Nv (e:A0)(res:Bool):Prop:=O0 C 124 [.agg (A0.cells e)] [] (Ret [] (.d (.bool res)))
abbrev R12 (e:A0)(i:Int)(res:Bool):Prop:=LM C 63 0 Tryz.f124 [1,1,1,0,1,4] [(1,.ref 0 0),(3,.d (.int .i64 i))] [.row (A0.cells e) 40] (Ret [] (.d (.bool res)))
theorem I14:(∀ e res,Z4 e=some res→Nv e res)∧(∀ e i res,Ad e i=some res→R12 e i res):=by
 refine Z4.mutual_partial_correctness _ _ ?_ ?_
 ·intro g1 ih1 e res hh
  obtain ⟨x1,hx1,hh⟩:=bs' hh
  refine O0.intro hC Tryz.func124 rfl rfl rfl (s' rfl rfl (L0.n hC rfl (e' rfl (S' (S' (AEx.drawG hC 32 rfl rfl rfl (G' 2 rfl (AG.c rfl rfl (fun _=>trivial) (fun _=>A1c hx1) (G' 2 rfl (AG.qe hC rfl (fun hg=>⟨trivial,trivial⟩) (A0.lenA _) (G' 3 rfl (a1' rfl (a1' rfl ?_)))))))))))))
  refine a1' rfl (a0' rfl (a1' rfl (a1' rfl (pA' rfl (po' rfl (G' 2 rfl (a1' rfl (a1' rfl (a1' rfl (a0' rfl (a1' rfl (a1' rfl (pA' rfl ?_)))))))))))))
  refine a1' rfl (a0' rfl (a1' rfl (a1' rfl (pA' rfl (po' rfl (an' (n' (ci' rfl hh (fun hh=>?_) (fun hh=>?_)))))))))
  ·cases hh
   exact t' rfl (re' (rt' rfl rfl rfl))
  obtain ⟨x2,hx2,hh⟩:=bs' hh
  refine sk' (S' (sg' 13 rfl (G' 5 rfl (a1' rfl (a1' rfl (po' rfl (G' 2 rfl (AG.c rfl rfl (fun hg=>⟨hg,trivial⟩) (fun hw=>Mv (W1 hw hx2)) (a1' rfl (pa' rfl (an' (n' (ci' rfl hh (fun hh=>?_) (fun hh=>?_))))))))))))))
  ·cases hh
   exact t' rfl (re' (rt' rfl rfl rfl))
  exact sk' (S' (t' rfl (bk' (fw' (ih1 _ _ _ hh) rfl rfl rfl))))
 ·intro g0 g1 ih0 ih1 e i res hh
  refine D1.unroll (S' (p' 3 rfl (qe' rfl trivial (A0.lenA _) (e' rfl (ci' rfl hh (fun hh=>?_) (fun hh=>?_))))))
  ·obtain ⟨x3,hx3,hh⟩:=bs' hh
   obtain ⟨x4,hx4,hh⟩:=bs' hh
   refine sk' (S' (bk' (p' 3 rfl (i' rfl (T0 hx3) (A0.idx hx3) rfl (q' rfl (c' (ih0 _ _ hx4) rfl rfl (e' rfl (ci' rfl hh (fun hh=>?_) (fun hh=>?_)))))))))
   ·cases hh
    exact t' rfl (re' (rt' rfl rfl rfl))
   exact sk' (T' rfl (lw' (ih1 _ _ _ hh) rfl rfl rfl))
  cases hh
  exact ex' (t' rfl (re' (rt' rfl rfl rfl)))
theorem Yi {e res}(hh:Z4 e=some res):Nv e res:=(I14).1 _ _ hh
def Fh (v:Int):Option Bool:=
 some (bif (bif (v == 1) then true else (v == 2)) then true else (v == 7))
theorem Lm {v res}(hh:Fh v=some res):O0 C 103 [.d (.int .i64 v)] [] (Ret [] (.d (.bool res))):=by
 unfold Fh at hh
 cases hh
 exact O0.intro hC Tryz.func103 rfl rfl rfl (t' rfl (sg' 11 rfl (G' 4 rfl (a1' rfl (po' rfl (G' 2 rfl (a1' rfl (po' rfl (a0' rfl (an' (n' (re' (rt' rfl rfl rfl)))))))))))))
def Tq (v:Int):Option Bool:=
 some (bif (v == 4) then true else (v == 6))
theorem G1a {v res}(hh:Tq v=some res):O0 C 187 [.d (.int .i64 v)] [] (Ret [] (.d (.bool res))):=by
 unfold Tq at hh
 cases hh
 exact O0.intro hC Tryz.func187 rfl rfl rfl (t' rfl (sg' 7 rfl (G' 4 rfl (a1' rfl (po' rfl (a0' rfl (an' (n' (re' (rt' rfl rfl rfl))))))))))
def Xl (v:Int):Option Bool:=
 some (bif (bif (v == 5) then true else (v == 6)) then true else (v == 7))
theorem X15 {v res}(hh:Xl v=some res):O0 C 188 [.d (.int .i64 v)] [] (Ret [] (.d (.bool res))):=by
 unfold Xl at hh
 cases hh
 exact O0.intro hC Tryz.func188 rfl rfl rfl (t' rfl (sg' 11 rfl (G' 4 rfl (a1' rfl (po' rfl (G' 2 rfl (a1' rfl (po' rfl (a0' rfl (an' (n' (re' (rt' rfl rfl rfl)))))))))))))
mutual
def T7 (l:List C0):Option Bool:=
 Ab l 0
 partial_fixpoint
def Ab (l:List C0)(i:Int):Option Bool:=
 if (decide (i < ((l).length:Int)))=true then
  idx l i>>=fun x1=>
  if (bif (decide (x1.Verb < 0)) then true else (decide (x1.Verb > 8)))=true then
   some false
  else
   Wf x1.Verb>>=fun x2=>
   (if x2=true then Gd x1.Place else some default)>>=fun x3=>
   (if (x2&&(!(!x3)))=true then Z4 x1.Place else some default)>>=fun x4=>
   (if (!(bif x2 then (bif (!x3) then true else (!x4)) else false))=true then Wf x1.Verb else some default)>>=fun x5=>
   (if ((!(bif x2 then (bif (!x3) then true else (!x4)) else false))&&(!x5))=true then Wa x1.Place else some default)>>=fun x6=>
   if (bif (bif x2 then (bif (!x3) then true else (!x4)) else false) then true else (bif (!x5) then (!x6) else false))=true then
    some false
   else
    Xf x1.Verb>>=fun x7=>
    (if x7=true then Z4 x1.Value else some default)>>=fun x8=>
    (if (!(bif x7 then (!x8) else false))=true then Xf x1.Verb else some default)>>=fun x9=>
    (if ((!(bif x7 then (!x8) else false))&&(!x9))=true then Wa x1.Value else some default)>>=fun x10=>
    if (bif (bif x7 then (!x8) else false) then true else (bif (!x9) then (!x10) else false))=true then
     some false
    else
     Fh x1.Verb>>=fun x11=>
     (if (!(bif (bif (!x11) then (!(x1.Name == [])) else false) then true else (bif (x1.Verb != 1) then (((x1.Args).length:Int) != 0) else false)))=true then Tq x1.Verb else some default)>>=fun x12=>
     if (bif (bif (bif (bif (bif (!x11) then (!(x1.Name == [])) else false) then true else (bif (x1.Verb != 1) then (((x1.Args).length:Int) != 0) else false)) then true else (bif (!x12) then (x1.NV != 0) else false)) then true else (bif (x1.Verb != 7) then (bif (x1.Low != 0) then true else (x1.High != 0)) else false)) then true else (bif (x1.Verb != 8) then (((x1.Numbers).length:Int) != 0) else false))=true then
      some false
     else
      Xl x1.Verb>>=fun x13=>
      if (bif (bif (!x13) then (((x1.Then).length:Int) != 0) else false) then true else (bif (x1.Verb != 5) then (((x1.Else).length:Int) != 0) else false))=true then
       some false
      else
       Ef l x1 i 0
 else
  some true
 partial_fixpoint
def Ef (l:List C0)(x1:C0)(i1:Int)(k:Int):Option Bool:=
 if (decide (k < ((x1.Args).length:Int)))=true then
  idx x1.Args k>>=fun x14=>
  Z4 x14>>=fun x15=>
  if (!x15)=true then
   some false
  else
   Ef l x1 i1 (IntKind.i64.wrap (k+1))
 else
  T7 x1.Then>>=fun x16=>
  (if (!(!x16))=true then T7 x1.Else else some default)>>=fun x17=>
  if (bif (!x16) then true else (!x17))=true then
   some false
  else
   Ab l (IntKind.i64.wrap (i1+1))
 partial_fixpoint
end
abbrev Xs (l:List C0)(res:Bool):Prop:=O0 C 96 [.d (.sl (C0.rows l))] [] (Ret [] (.d (.bool res)))
abbrev O10 (l:List C0)(i:Int)(res:Bool):Prop:=LM C 174 0 Tryz.f96 [1,0,1,4] [(0,.d (.sl (C0.rows l))),(3,.d (.int .i64 i))] [] (Ret [] (.d (.bool res)))
abbrev P10 (l:List C0)(x1:C0)(i1:Int)(k:Int)(res:Bool):Prop:=LM C 174 0 Tryz.f96 [1,0,1,4,5,1,0,4,1,1,1,1,1,1,0,1,4] [(0,.d (.sl (C0.rows l))),(3,.d (.int .i64 i1)),(4,.ref 0 0),(5,.d (.int .i64 k))] [.row (C0.cells x1) 79] (Ret [] (.d (.bool res)))
theorem S12:(∀ l res,T7 l=some res→Xs l res)∧(∀ l i res,Ab l i=some res→O10 l i res)∧(∀ l x1 i1 k res,Ef l x1 i1 k=some res→P10 l x1 i1 k res):=by
 refine T7.mutual_partial_correctness _ _ _ ?_ ?_ ?_
 ·intro g1 ih1 l res hh
  exact O0.intro hC Tryz.func96 rfl rfl rfl (t' rfl (S' (t' rfl (bk' (fw' (ih1 _ _ _ hh) rfl rfl rfl)))))
 ·intro g2 ih2 l i res hh
  refine D1.unroll (S' (p' 2 rfl (qe' rfl trivial (C0.lenA _) (e' rfl (ci' rfl hh (fun hh=>?_) (fun hh=>?_))))))
  ·obtain ⟨x1,hx1,hh⟩:=bs' hh
   refine sk' (S' (bk' (p' 2 rfl (i' rfl (T0 hx1) (C0.idx hx1) rfl (q' rfl (L0.nf hC rfl (L0.s hC rfl (n' (S' (sg' 8 rfl (G' 5 rfl (a1' rfl (a1' rfl ?_)))))))))))))
   refine po' rfl (an' (n' (ci' rfl hh (fun hh=>?_) (fun hh=>?_))))
   ·cases hh
    exact t' rfl (re' (rt' rfl rfl rfl))
   obtain ⟨x2,hx2,hh⟩:=bs' hh
   obtain ⟨x3,hx3,hh⟩:=bs' hh
   obtain ⟨x4,hx4,hh⟩:=bs' hh
   obtain ⟨x5,hx5,hh⟩:=bs' hh
   obtain ⟨x6,hx6,hh⟩:=bs' hh
   refine sk' (S' (sg' 27 rfl (G' 2 rfl (AG.c rfl rfl (fun _=>trivial) (fun _=>Ol hx2) (G' 2 rfl (a1' rfl (AG.c rfl rfl (fun hg=>⟨hg,trivial⟩) (fun hw=>Mv (W1 hw hx3)) (a1' rfl (a1' rfl (a0' rfl (a1' rfl (AG.c rfl rfl (fun hg=>⟨hg,trivial⟩) (fun hw=>Yi (W1 hw hx4)) (a1' rfl ?_)))))))))))))
   refine pO' rfl (pa' rfl (G' 2 rfl (a1' rfl (AG.c rfl rfl (fun hg=>⟨hg,trivial⟩) (fun hw=>Ol (W1 hw hx5)) (a1' rfl (a1' rfl (a0' rfl (a1' rfl (AG.c rfl rfl (fun hg=>⟨hg,trivial⟩) (fun hw=>Xi (W1 hw hx6)) (a1' rfl (pA' rfl (po' rfl (an' ?_)))))))))))))
   refine n' (ci' rfl hh (fun hh=>?_) (fun hh=>?_))
   ·cases hh
    exact t' rfl (re' (rt' rfl rfl rfl))
   obtain ⟨x7,hx7,hh⟩:=bs' hh
   obtain ⟨x8,hx8,hh⟩:=bs' hh
   obtain ⟨x9,hx9,hh⟩:=bs' hh
   obtain ⟨x10,hx10,hh⟩:=bs' hh
   refine sk' (S' (sg' 21 rfl (G' 2 rfl (AG.c rfl rfl (fun _=>trivial) (fun _=>Pl hx7) (G' 2 rfl (a1' rfl (AG.c rfl rfl (fun hg=>⟨hg,trivial⟩) (fun hw=>Yi (W1 hw hx8)) (a1' rfl (pa' rfl (G' 2 rfl (a1' rfl (AG.c rfl rfl (fun hg=>⟨hg,trivial⟩) (fun hw=>Pl (W1 hw hx9)) (a1' rfl ?_)))))))))))))
   refine a1' rfl (a0' rfl (a1' rfl (AG.c rfl rfl (fun hg=>⟨hg,trivial⟩) (fun hw=>Xi (W1 hw hx10)) (a1' rfl (pA' rfl (po' rfl (an' (n' (ci' rfl hh (fun hh=>?_) (fun hh=>?_))))))))))
   ·cases hh
    exact t' rfl (re' (rt' rfl rfl rfl))
   obtain ⟨x11,hx11,hh⟩:=bs' hh
   obtain ⟨x12,hx12,hh⟩:=bs' hh
   refine sk' (S' (sg' 57 rfl (G' 2 rfl (AG.c rfl rfl (fun _=>trivial) (fun _=>Lm hx11) (G' 3 rfl (a1' rfl (a1' rfl (pa' rfl (G' 2 rfl (a1' rfl (a1' rfl (a1' rfl (a0' rfl ?_)))))))))))))
   refine a1' rfl (AG.qe hC rfl (fun hg=>⟨⟨hg,trivial⟩,trivial⟩) (A0.lenA _) (a1' rfl (pA' rfl (po' rfl (G' 2 rfl (a1' rfl (AG.c rfl rfl (fun hg=>⟨hg,trivial⟩) (fun hw=>G1a (W1 hw hx12)) (a1' rfl (a1' rfl (a0' rfl (a1' rfl (a1' rfl (pA' rfl ?_)))))))))))))
   refine po' rfl (G' 2 rfl (a1' rfl (a1' rfl (a1' rfl (a0' rfl (a1' rfl (a1' rfl (a1' rfl (a0' rfl (a1' rfl (a1' rfl (pO' rfl (pA' rfl ?_)))))))))))))
   refine po' rfl (G' 2 rfl (a1' rfl (a1' rfl (a1' rfl (a0' rfl (a1' rfl (AG.qe hC rfl (fun hg=>⟨⟨hg,trivial⟩,trivial⟩) (ei64.lenA _) (a1' rfl (pA' rfl (po' rfl (an' (n' (ci' rfl hh (fun hh=>?_) (fun hh=>?_))))))))))))))
   ·cases hh
    exact t' rfl (re' (rt' rfl rfl rfl))
   obtain ⟨x13,hx13,hh⟩:=bs' hh
   refine sk' (S' (sg' 21 rfl (G' 2 rfl (AG.c rfl rfl (fun _=>trivial) (fun _=>X15 hx13) (G' 3 rfl (a1' rfl (AG.qe hC rfl (fun hg=>⟨⟨hg,trivial⟩,trivial⟩) (C0.lenA _) (a1' rfl (pa' rfl (G' 2 rfl (a1' rfl (a1' rfl (a1' rfl ?_)))))))))))))
   refine a0' rfl (a1' rfl (AG.qe hC rfl (fun hg=>⟨⟨hg,trivial⟩,trivial⟩) (C0.lenA _) (a1' rfl (pA' rfl (po' rfl (an' (n' (ci' rfl hh (fun hh=>?_) (fun hh=>?_)))))))))
   ·cases hh
    exact t' rfl (re' (rt' rfl rfl rfl))
   exact sk' (S' (t' rfl (bk' (fw' (ih2 _ _ _ _ _ hh) rfl rfl rfl))))
  cases hh
  exact ex' (t' rfl (re' (rt' rfl rfl rfl)))
 ·intro g0 g1 g2 ih0 ih1 ih2 l x1 i1 k res hh
  refine D1.unroll (S' (p' 3 rfl (qe' rfl trivial (A0.lenA _) (e' rfl (ci' rfl hh (fun hh=>?_) (fun hh=>?_))))))
  ·obtain ⟨x14,hx14,hh⟩:=bs' hh
   obtain ⟨x15,hx15,hh⟩:=bs' hh
   refine sk' (S' (bk' (p' 3 rfl (i' rfl (T0 hx14) (A0.idx hx14) rfl (q' rfl (c' (Yi hx15) rfl rfl (e' rfl (ci' rfl hh (fun hh=>?_) (fun hh=>?_)))))))))
   ·cases hh
    exact t' rfl (re' (rt' rfl rfl rfl))
   exact sk' (T' rfl (lw' (ih2 _ _ _ _ _ hh) rfl rfl rfl))
  obtain ⟨x16,hx16,hh⟩:=bs' hh
  obtain ⟨x17,hx17,hh⟩:=bs' hh
  refine ex' (sg' 10 rfl (G' 2 rfl (AG.c rfl rfl (fun _=>trivial) (fun _=>ih0 _ _ hx16) (G' 3 rfl (a1' rfl (AG.c rfl rfl (fun hg=>⟨hg,trivial⟩) (fun hw=>ih0 _ _ (W1 hw hx17)) (a1' rfl (po' rfl (an' (n' (ci' rfl hh (fun hh=>?_) (fun hh=>?_))))))))))))
  ·cases hh
   exact t' rfl (re' (rt' rfl rfl rfl))
  exact sk' (T' rfl (lw' (ih1 _ _ _ hh) rfl rfl rfl))
theorem Lr {l res}(hh:T7 l=some res):Xs l res:=(S12).1 _ _ hh
mutual
def M9 (l:List F0):Option Bool:=
 Cb l 0
 partial_fixpoint
def Cb (l:List F0)(i:Int):Option Bool:=
 if (decide (i < ((l).length:Int)))=true then
  idx l i>>=fun x1=>
  Rj x1.Kind>>=fun x2=>
  (if (!(!x2))=true then Za x1.TypeV else some default)>>=fun x3=>
  if (bif (!x2) then true else (!x3))=true then
   some false
  else
   Uf x1.Kind>>=fun x4=>
   (if x4=true then Z4 x1.Value else some default)>>=fun x5=>
   (if (!(bif x4 then (!x5) else false))=true then Uf x1.Kind else some default)>>=fun x6=>
   (if ((!(bif x4 then (!x5) else false))&&(!x6))=true then Wa x1.Value else some default)>>=fun x7=>
   if (bif (bif (bif x4 then (!x5) else false) then true else (bif (!x6) then (!x7) else false)) then true else (bif (x1.Kind != 4) then (x1.Init != 0) else false))=true then
    some false
   else
    if (bif (x1.Kind != 6) then (bif (bif (((x1.Params).length:Int) != 0) then true else (((x1.Vars).length:Int) != 0)) then true else (((x1.Body).length:Int) != 0)) else false)=true then
     some false
    else
     I6 l x1 i 0
 else
  some true
 partial_fixpoint
def I6 (l:List F0)(x1:F0)(i1:Int)(k:Int):Option Bool:=
 if (decide (k < ((x1.Params).length:Int)))=true then
  idx x1.Params k>>=fun x8=>
  (if (!(x8.Kind != 4))=true then idx x1.Params k else some default)>>=fun x9=>
  if (bif (x8.Kind != 4) then true else (x9.Init != 0))=true then
   some false
  else
   I6 l x1 i1 (IntKind.i64.wrap (k+1))
 else
  J6 l x1 i1 0
 partial_fixpoint
def J6 (l:List F0)(x1:F0)(i2:Int)(k1:Int):Option Bool:=
 if (decide (k1 < ((x1.Vars).length:Int)))=true then
  idx x1.Vars k1>>=fun x10=>
  if (x10.Kind != 4)=true then
   some false
  else
   J6 l x1 i2 (IntKind.i64.wrap (k1+1))
 else
  M9 x1.Params>>=fun x11=>
  (if (!(!x11))=true then M9 x1.Vars else some default)>>=fun x12=>
  (if (!(bif (!x11) then true else (!x12)))=true then T7 x1.Body else some default)>>=fun x13=>
  if (bif (bif (!x11) then true else (!x12)) then true else (!x13))=true then
   some false
  else
   Cb l (IntKind.i64.wrap (i2+1))
 partial_fixpoint
end
abbrev Ys (l:List F0)(res:Bool):Prop:=O0 C 95 [.d (.sl (F0.rows l))] [] (Ret [] (.d (.bool res)))
abbrev Q10 (l:List F0)(i:Int)(res:Bool):Prop:=LM C 132 0 Tryz.f95 [1,0,1,4] [(0,.d (.sl (F0.rows l))),(3,.d (.int .i64 i))] [] (Ret [] (.d (.bool res)))
abbrev R10 (l:List F0)(x1:F0)(i1:Int)(k:Int)(res:Bool):Prop:=LM C 132 0 Tryz.f95 [1,0,1,4,5,1,0,4,1,1,1,1,0,1,4] [(0,.d (.sl (F0.rows l))),(3,.d (.int .i64 i1)),(4,.ref 0 0),(5,.d (.int .i64 k))] [.row (F0.cells x1) 75] (Ret [] (.d (.bool res)))
abbrev S10 (l:List F0)(x1:F0)(i2:Int)(k1:Int)(res:Bool):Prop:=LM C 132 0 Tryz.f95 [1,0,1,4,5,1,0,4,1,1,1,1,1,0,1,4] [(0,.d (.sl (F0.rows l))),(3,.d (.int .i64 i2)),(4,.ref 0 0),(6,.d (.int .i64 k1))] [.row (F0.cells x1) 75] (Ret [] (.d (.bool res)))
theorem T12:(∀ l res,M9 l=some res→Ys l res)∧(∀ l i res,Cb l i=some res→Q10 l i res)∧(∀ l x1 i1 k res,I6 l x1 i1 k=some res→R10 l x1 i1 k res)∧(∀ l x1 i2 k1 res,J6 l x1 i2 k1=some res→S10 l x1 i2 k1 res):=by
 refine M9.mutual_partial_correctness _ _ _ _ ?_ ?_ ?_ ?_
 ·intro g1 ih1 l res hh
  exact O0.intro hC Tryz.func95 rfl rfl rfl (t' rfl (S' (t' rfl (bk' (fw' (ih1 _ _ _ hh) rfl rfl rfl)))))
 ·intro g2 ih2 l i res hh
  refine D1.unroll (S' (p' 2 rfl (qe' rfl trivial (F0.lenA _) (e' rfl (ci' rfl hh (fun hh=>?_) (fun hh=>?_))))))
  ·obtain ⟨x1,hx1,hh⟩:=bs' hh
   obtain ⟨x2,hx2,hh⟩:=bs' hh
   obtain ⟨x3,hx3,hh⟩:=bs' hh
   refine sk' (S' (bk' (p' 2 rfl (i' rfl (T0 hx1) (F0.idx hx1) rfl (q' rfl (L0.nf hC rfl (L0.s hC rfl (n' (S' (sg' 10 rfl (G' 2 rfl (AG.c rfl rfl (fun _=>trivial) (fun _=>Ps hx2) (G' 3 rfl ?_)))))))))))))
   refine a1' rfl (AG.c rfl rfl (fun hg=>⟨hg,trivial⟩) (fun hw=>V15 (W1 hw hx3)) (a1' rfl (po' rfl (an' (n' (ci' rfl hh (fun hh=>?_) (fun hh=>?_)))))))
   ·cases hh
    exact t' rfl (re' (rt' rfl rfl rfl))
   obtain ⟨x4,hx4,hh⟩:=bs' hh
   obtain ⟨x5,hx5,hh⟩:=bs' hh
   obtain ⟨x6,hx6,hh⟩:=bs' hh
   obtain ⟨x7,hx7,hh⟩:=bs' hh
   refine sk' (S' (sg' 31 rfl (G' 2 rfl (AG.c rfl rfl (fun _=>trivial) (fun _=>Nl hx4) (G' 2 rfl (a1' rfl (AG.c rfl rfl (fun hg=>⟨hg,trivial⟩) (fun hw=>Yi (W1 hw hx5)) (a1' rfl (pa' rfl (G' 2 rfl (a1' rfl (AG.c rfl rfl (fun hg=>⟨hg,trivial⟩) (fun hw=>Nl (W1 hw hx6)) (a1' rfl ?_)))))))))))))
   refine a1' rfl (a0' rfl (a1' rfl (AG.c rfl rfl (fun hg=>⟨hg,trivial⟩) (fun hw=>Xi (W1 hw hx7)) (a1' rfl (pA' rfl (po' rfl (G' 2 rfl (a1' rfl (a1' rfl (a1' rfl (a0' rfl (a1' rfl (a1' rfl ?_)))))))))))))
   refine pA' rfl (po' rfl (an' (n' (ci' rfl hh (fun hh=>?_) (fun hh=>?_)))))
   ·cases hh
    exact t' rfl (re' (rt' rfl rfl rfl))
   refine sk' (S' (sg' 21 rfl (G' 5 rfl (a1' rfl (AG.qe hC rfl (fun hg=>⟨⟨hg,trivial⟩,trivial⟩) (F0.lenA _) (a1' rfl (a1' rfl (a0' rfl (a1' rfl (AG.qe hC rfl (fun hg=>⟨⟨hg,trivial⟩,trivial⟩) (F0.lenA _) (a1' rfl (pO' rfl (a1' rfl ?_)))))))))))))
   refine a0' rfl (a1' rfl (AG.qe hC rfl (fun hg=>⟨⟨hg,trivial⟩,trivial⟩) (C0.lenA _) (a1' rfl (pO' rfl (pa' rfl (an' (n' (ci' rfl hh (fun hh=>?_) (fun hh=>?_)))))))))
   ·cases hh
    exact t' rfl (re' (rt' rfl rfl rfl))
   exact sk' (S' (t' rfl (bk' (fw' (ih2 _ _ _ _ _ hh) rfl rfl rfl))))
  cases hh
  exact ex' (t' rfl (re' (rt' rfl rfl rfl)))
 ·intro g2 g3 ih2 ih3 l x1 i1 k res hh
  refine D1.unroll (S' (p' 3 rfl (qe' rfl trivial (F0.lenA _) (e' rfl (ci' rfl hh (fun hh=>?_) (fun hh=>?_))))))
  ·obtain ⟨x8,hx8,hh⟩:=bs' hh
   obtain ⟨x9,hx9,hh⟩:=bs' hh
   refine sk' (S' (bk' (sg' 16 rfl (G' 3 rfl (AG.i hC rfl rfl (fun _=>trivial) (fun hw=>⟨T0 hx8,F0.idx hx8,rfl⟩) (G' 5 rfl (a1' rfl (a0' rfl (AG.i hC rfl rfl (fun hg=>⟨hg,hg,trivial⟩) (fun hw=>⟨T0 (W1 hw hx9),F0.idx (W1 hw hx9),rfl⟩) (a1' rfl (a1' rfl (a1' rfl (po' rfl ?_)))))))))))))
   refine an' (n' (ci' rfl hh (fun hh=>?_) (fun hh=>?_)))
   ·cases hh
    exact t' rfl (re' (rt' rfl rfl rfl))
   exact sk' (T' rfl (lw' (ih2 _ _ _ _ _ hh) rfl rfl rfl))
  exact ex' (S' (t' rfl (bk' (fw' (ih3 _ _ _ _ _ hh) rfl rfl rfl))))
 ·intro g0 g1 g3 ih0 ih1 ih3 l x1 i2 k1 res hh
  refine D1.unroll (S' (p' 3 rfl (qe' rfl trivial (F0.lenA _) (e' rfl (ci' rfl hh (fun hh=>?_) (fun hh=>?_))))))
  ·obtain ⟨x10,hx10,hh⟩:=bs' hh
   refine sk' (S' (bk' (p' 3 rfl (i' rfl (T0 hx10) (F0.idx hx10) rfl (e' rfl (ci' rfl hh (fun hh=>?_) (fun hh=>?_)))))))
   ·cases hh
    exact t' rfl (re' (rt' rfl rfl rfl))
   exact sk' (T' rfl (lw' (ih3 _ _ _ _ _ hh) rfl rfl rfl))
  obtain ⟨x11,hx11,hh⟩:=bs' hh
  obtain ⟨x12,hx12,hh⟩:=bs' hh
  obtain ⟨x13,hx13,hh⟩:=bs' hh
  refine ex' (sg' 16 rfl (G' 2 rfl (AG.c rfl rfl (fun _=>trivial) (fun _=>ih0 _ _ hx11) (G' 3 rfl (a1' rfl (AG.c rfl rfl (fun hg=>⟨hg,trivial⟩) (fun hw=>ih0 _ _ (W1 hw hx12)) (a1' rfl (po' rfl (G' 2 rfl (a1' rfl (AG.c rfl rfl (fun hg=>⟨hg,trivial⟩) (fun hw=>Lr (W1 hw hx13)) (a1' rfl (po' rfl ?_)))))))))))))
  refine an' (n' (ci' rfl hh (fun hh=>?_) (fun hh=>?_)))
  ·cases hh
   exact t' rfl (re' (rt' rfl rfl rfl))
  exact sk' (T' rfl (lw' (ih1 _ _ _ hh) rfl rfl rfl))
theorem J14 {l res}(hh:M9 l=some res):Ys l res:=(T12).1 _ _ hh
def Tj (c:Int):Option Bool:=
 some (bif (decide (c≥97)) then (decide (c≤122)) else false)
theorem So {c res}(hh:Tj c=some res):O0 C 151 [.d (.int .u8 c)] [] (Ret [] (.d (.bool res))):=by
 unfold Tj at hh
 cases hh
 exact O0.intro hC Tryz.func151 rfl rfl rfl (t' rfl (sg' 7 rfl (G' 4 rfl (a1' rfl (pa' rfl (a0' rfl (an' (n' (re' (rt' rfl rfl rfl))))))))))
def K7 (s:Str)(i1:Int):Option Bool:=
 if (decide ((IntKind.i64.wrap ((IntKind.i64.wrap (i1+((s).length:Int)))+2))≤162))=true then
  slc [32,116,121,112,101,32,115,101,99,114,101,116,32,112,117,98,108,105,99,32,114,97,110,100,111,109,32,118,97,114,32,104,97,116,99,104,32,102,117,110,99,32,114,101,116,117,114,110,32,98,101,103,105,110,32,101,110,100,32,98,111,111,108,32,105,110,116,32,97,114,114,97,121,32,111,102,32,114,101,99,111,114,100,32,116,114,117,101,32,102,97,108,115,101,32,99,97,108,108,32,114,101,108,101,97,115,101,32,111,117,116,112,117,116,32,119,97,105,116,32,105,102,32,101,108,115,101,32,119,104,105,108,101,32,108,105,109,105,116,32,102,111,114,32,116,111,32,115,101,116,116,108,101,32,109,105,110,32,109,97,120,32] i1 (IntKind.i64.wrap ((IntKind.i64.wrap (i1+((s).length:Int)))+2))>>=fun x3=>
  if (decide (1+s.length≤maxLen))=true then
   if (decide (([32]++s).length+1≤maxLen))=true then
    if (x3 == (([32]++s)++[32]))=true then
     some true
    else
     K7 s (IntKind.i64.wrap (i1+1))
   else none
  else none
 else
  some false
 partial_fixpoint
abbrev Rp (s:Str)(i1:Int)(res:Bool):Prop:=LM C 38 0 Tryz.f152 [1,1,1,0,1,4] [(0,.d (.str s)),(4,.d (.int .i64 i1))] [] (Ret [] (.d (.bool res)))
theorem Cz (s:Str):(∀ i1 res,K7 s i1=some res→Rp s i1 res):=by
 refine K7.partial_correctness s _ ?_
 ·intro g0 ih0 i1 res hh
  refine D1.unroll (S' (t' rfl (ci' rfl hh (fun hh=>?_) (fun hh=>?_))))
  ·obtain ⟨x3,hx3,hh⟩:=bs' hh
   obtain ⟨c11,hh⟩:=X0 hh
   obtain ⟨c12,hh⟩:=X0 hh
   refine sk' (S' (bk' (p' 6 rfl (L0.lx hC rfl hx3 (q' rfl (qc' rfl c11 (qc' rfl c12 (e' rfl (ci' rfl hh (fun hh=>?_) (fun hh=>?_))))))))))
   ·cases hh
    exact t' rfl (re' (rt' rfl rfl rfl))
   exact sk' (T' rfl (lw' (ih0 _ _ hh) rfl rfl rfl))
  cases hh
  exact ex' (t' rfl (re' (rt' rfl rfl rfl)))
theorem T10 {s i1 res}(hh:K7 s i1=some res):Rp s i1 res:=(Cz s) _ _ hh
def L7 (s:Str)(i:Int):Option Bool:=
 if (decide (i < ((s).length:Int)))=true then
  idx s i>>=fun x1=>
  Tj (x1.toNat:Int)>>=fun x2=>
  if (!x2)=true then
   some false
  else
   L7 s (IntKind.i64.wrap (i+1))
 else
  K7 s 0
 partial_fixpoint
abbrev Sp (s:Str)(i:Int)(res:Bool):Prop:=LM C 38 0 Tryz.f152 [1,1,0,1,4] [(0,.d (.str s)),(3,.d (.int .i64 i))] [] (Ret [] (.d (.bool res)))
theorem Dz (s:Str):(∀ i res,L7 s i=some res→Sp s i res):=by
 refine L7.partial_correctness s _ ?_
 ·intro g0 ih0 i res hh
  refine D1.unroll (S' (t' rfl (ci' rfl hh (fun hh=>?_) (fun hh=>?_))))
  ·obtain ⟨x1,hx1,hh⟩:=bs' hh
   obtain ⟨x2,hx2,hh⟩:=bs' hh
   refine sk' (S' (bk' (p' 2 rfl (x' rfl (T0 hx1) (Bq hx1) (c' (So hx2) rfl rfl (e' rfl (ci' rfl hh (fun hh=>?_) (fun hh=>?_))))))))
   ·cases hh
    exact t' rfl (re' (rt' rfl rfl rfl))
   exact sk' (T' rfl (lw' (ih0 _ _ hh) rfl rfl rfl))
  exact ex' (S' (t' rfl (bk' (fw' (T10 hh) rfl rfl rfl))))
theorem U10 {s i res}(hh:L7 s i=some res):Sp s i res:=(Dz s) _ _ hh
def Uj (s:Str):Option Bool:=
 if (((s).length:Int) == 0)=true then
  some false
 else
  L7 s 0
theorem Y15 {s res}(hh:Uj s=some res):O0 C 152 [.d (.str s)] [] (Ret [] (.d (.bool res))):=by
 unfold Uj at hh
 refine O0.intro hC Tryz.func152 rfl rfl rfl (t' rfl (S' (t' rfl (ci' rfl hh (fun hh=>?_) (fun hh=>?_)))))
 ·cases hh
  exact t' rfl (re' (rt' rfl rfl rfl))
 exact sk' (S' (t' rfl (bk' (fw' (U10 hh) rfl rfl rfl))))
def Uq (c:Int):Option Bool:=
 some (bif (decide (c≥48)) then (decide (c≤57)) else false)
theorem H1a {c res}(hh:Uq c=some res):O0 C 153 [.d (.int .u8 c)] [] (Ret [] (.d (.bool res))):=by
 unfold Uq at hh
 cases hh
 exact O0.intro hC Tryz.func153 rfl rfl rfl (t' rfl (sg' 7 rfl (G' 4 rfl (a1' rfl (pa' rfl (a0' rfl (an' (n' (re' (rt' rfl rfl rfl))))))))))
def Ff (s:Str)(atV1:Int):Option Int:=
 (if (decide (atV1 < ((s).length:Int)))=true then idx s atV1 else some default)>>=fun x1=>
 (if (decide (atV1 < ((s).length:Int)))=true then Tj (x1.toNat:Int) else some default)>>=fun x2=>
 (if ((decide (atV1 < ((s).length:Int)))&&(!x2))=true then idx s atV1 else some default)>>=fun x3=>
 (if ((decide (atV1 < ((s).length:Int)))&&(!x2))=true then Uq (x3.toNat:Int) else some default)>>=fun x4=>
 if (bif (decide (atV1 < ((s).length:Int))) then (bif x2 then true else x4) else false)=true then
  Ff s (IntKind.i64.wrap (atV1+1))
 else
  some atV1
 partial_fixpoint
abbrev Ez (s:Str)(atV1:Int)(res:Int):Prop:=LM C 24 0 Tryz.f150 [1,0,4] [(0,.d (.str s)),(1,.d (.int .i64 atV1))] [] (Ret [] (.d (.int .i64 res)))
theorem D17 (s:Str):(∀ atV1 res,Ff s atV1=some res→Ez s atV1 res):=by
 refine Ff.partial_correctness s _ ?_
 ·intro g0 ih0 atV1 res hh
  obtain ⟨x1,hx1,hh⟩:=bs' hh
  obtain ⟨x2,hx2,hh⟩:=bs' hh
  obtain ⟨x3,hx3,hh⟩:=bs' hh
  obtain ⟨x4,hx4,hh⟩:=bs' hh
  refine D1.unroll (S' (sg' 16 rfl (G' 7 rfl (AG.x hC rfl rfl (fun hg=>⟨hg,hg,trivial⟩) (fun hw=>⟨T0 (W1 hw hx1),Bq (W1 hw hx1)⟩) (AG.c rfl rfl (fun hg=>⟨hg,trivial⟩) (fun hw=>So (W1 hw hx2)) (a1' rfl (G' 2 rfl (AG.x hC rfl rfl (fun hg=>⟨hg,hg,trivial⟩) (fun hw=>⟨T0 (W1 hw hx3),Bq (W1 hw hx3)⟩) ?_))))))))
  refine AG.c rfl rfl (fun hg=>⟨hg,trivial⟩) (fun hw=>H1a (W1 hw hx4)) (pO' rfl (pa' rfl (an' (n' (ci' rfl hh (fun hh=>?_) (fun hh=>?_))))))
  ·exact sk' (bk' (T' rfl (lw' (ih0 _ _ hh) rfl rfl rfl)))
  cases hh
  exact ex' (t' rfl (re' (rt' rfl rfl rfl)))
theorem Z18 {s atV1 res}(hh:Ff s atV1=some res):Ez s atV1 res:=(D17 s) _ _ hh
def Mr (s:Str)(atV:Int):Option Int:=
 Ff s atV
theorem T1d {s atV res}(hh:Mr s atV=some res):O0 C 150 [.d (.str s),.d (.int .i64 atV)] [] (Ret [] (.d (.int .i64 res))):=by
 unfold Mr at hh
 exact O0.intro hC Tryz.func150 rfl rfl rfl (t' rfl (S' (bk' (fw' (Z18 hh) rfl rfl rfl))))
def To (s:Str):Option Bool:=
 (if (!(bif (decide (((s).length:Int) < 1)) then true else (decide (((s).length:Int) > 12))))=true then idx s 0 else some default)>>=fun x1=>
 (if (!(bif (decide (((s).length:Int) < 1)) then true else (decide (((s).length:Int) > 12))))=true then Tj (x1.toNat:Int) else some default)>>=fun x2=>
 (if (!(bif (bif (decide (((s).length:Int) < 1)) then true else (decide (((s).length:Int) > 12))) then true else (!x2)))=true then Uj s else some default)>>=fun x3=>
 if (bif (bif (bif (decide (((s).length:Int) < 1)) then true else (decide (((s).length:Int) > 12))) then true else (!x2)) then true else x3)=true then
  some false
 else
  Mr s 0>>=fun x4=>
  some (x4 == ((s).length:Int))
theorem A19 {s res}(hh:To s=some res):O0 C 111 [.d (.str s)] [] (Ret [] (.d (.bool res))):=by
 unfold To at hh
 obtain ⟨x1,hx1,hh⟩:=bs' hh
 obtain ⟨x2,hx2,hh⟩:=bs' hh
 obtain ⟨x3,hx3,hh⟩:=bs' hh
 refine O0.intro hC Tryz.func111 rfl rfl rfl (t' rfl (S' (sg' 18 rfl (G' 5 rfl (a1' rfl (a1' rfl (po' rfl (G' 2 rfl (AG.x hC rfl rfl (fun hg=>⟨hg,trivial⟩) (fun hw=>⟨T0 (W1 hw hx1),Bq (W1 hw hx1)⟩) (AG.c rfl rfl (fun hg=>⟨hg,trivial⟩) (fun hw=>So (W1 hw hx2)) (a1' rfl (po' rfl (G' 2 rfl ?_)))))))))))))
 refine AG.c rfl rfl (fun hg=>⟨hg,trivial⟩) (fun hw=>Y15 (W1 hw hx3)) (po' rfl (an' (n' (ci' rfl hh (fun hh=>?_) (fun hh=>?_)))))
 ·cases hh
  exact t' rfl (re' (rt' rfl rfl rfl))
 obtain ⟨x4,hx4,hh⟩:=bs' hh
 cases hh
 exact sk' (p' 1 rfl (c' (T1d hx4) rfl rfl (e' rfl (re' (rt' rfl rfl rfl)))))
def Ub (s:Str):Option Bool:=
 To s>>=fun x1=>
 some x1
theorem Fi {s res}(hh:Ub s=some res):O0 C 55 [.d (.str s)] [] (Ret [] (.d (.bool res))):=by
 unfold Ub at hh
 obtain ⟨x1,hx1,hh⟩:=bs' hh
 cases hh
 exact O0.intro hC Tryz.func55 rfl rfl rfl (t' rfl (p' 1 rfl (c' (A19 hx1) rfl rfl (e' rfl (re' (rt' rfl rfl rfl))))))
mutual
def N9 (t:D0):Option Bool:=
 (if (t.Kind == 4)=true then Ub t.Name else some default)>>=fun x1=>
 if (bif (t.Kind == 4) then (!x1) else false)=true then
  some false
 else
  Db t 0
 partial_fixpoint
def Db (t:D0)(i:Int):Option Bool:=
 if (decide (i < ((t.Names).length:Int)))=true then
  idx t.Names i>>=fun x2=>
  Ub x2>>=fun x3=>
  if (!x3)=true then
   some false
  else
   Db t (IntKind.i64.wrap (i+1))
 else
  H8 t 0
 partial_fixpoint
def H8 (t:D0)(i1:Int):Option Bool:=
 if (decide (i1 < ((t.Of).length:Int)))=true then
  idx t.Of i1>>=fun x4=>
  N9 x4>>=fun x5=>
  if (!x5)=true then
   some false
  else
   H8 t (IntKind.i64.wrap (i1+1))
 else
  some true
 partial_fixpoint
end
abbrev Zs (t:D0)(res:Bool):Prop:=O0 C 136 [.agg (D0.cells t)] [] (Ret [] (.d (.bool res)))
abbrev V10 (t:D0)(i:Int)(res:Bool):Prop:=LM C 42 0 Tryz.f136 [1,1,0,1,4] [(1,.ref 0 0),(3,.d (.int .i64 i))] [.row (D0.cells t) 48] (Ret [] (.d (.bool res)))
abbrev W10 (t:D0)(i1:Int)(res:Bool):Prop:=LM C 42 0 Tryz.f136 [1,1,1,0,1,4] [(1,.ref 0 0),(4,.d (.int .i64 i1))] [.row (D0.cells t) 48] (Ret [] (.d (.bool res)))
theorem U12:(∀ t res,N9 t=some res→Zs t res)∧(∀ t i res,Db t i=some res→V10 t i res)∧(∀ t i1 res,H8 t i1=some res→W10 t i1 res):=by
 refine N9.mutual_partial_correctness _ _ _ ?_ ?_ ?_
 ·intro g1 ih1 t res hh
  obtain ⟨x1,hx1,hh⟩:=bs' hh
  refine O0.intro hC Tryz.func136 rfl rfl rfl (s' rfl rfl (L0.n hC rfl (e' rfl (S' (sg' 9 rfl (G' 5 rfl (a1' rfl (AG.c rfl rfl (fun hg=>⟨hg,trivial⟩) (fun hw=>Fi (W1 hw hx1)) (a1' rfl (pa' rfl (an' (n' (ci' rfl hh (fun hh=>?_) (fun hh=>?_))))))))))))))
  ·cases hh
   exact t' rfl (re' (rt' rfl rfl rfl))
  exact sk' (S' (t' rfl (bk' (fw' (ih1 _ _ _ hh) rfl rfl rfl))))
 ·intro g1 g2 ih1 ih2 t i res hh
  refine D1.unroll (S' (p' 3 rfl (qe' rfl trivial (estr.lenA _) (e' rfl (ci' rfl hh (fun hh=>?_) (fun hh=>?_))))))
  ·obtain ⟨x2,hx2,hh⟩:=bs' hh
   obtain ⟨x3,hx3,hh⟩:=bs' hh
   refine sk' (S' (bk' (p' 3 rfl (i' rfl (T0 hx2) (estr.idx hx2) rfl (q' rfl (c' (Fi hx3) rfl rfl (e' rfl (ci' rfl hh (fun hh=>?_) (fun hh=>?_)))))))))
   ·cases hh
    exact t' rfl (re' (rt' rfl rfl rfl))
   exact sk' (T' rfl (lw' (ih1 _ _ _ hh) rfl rfl rfl))
  exact ex' (S' (t' rfl (bk' (fw' (ih2 _ _ _ hh) rfl rfl rfl))))
 ·intro g0 g2 ih0 ih2 t i1 res hh
  refine D1.unroll (S' (p' 3 rfl (qe' rfl trivial (D0.lenA _) (e' rfl (ci' rfl hh (fun hh=>?_) (fun hh=>?_))))))
  ·obtain ⟨x4,hx4,hh⟩:=bs' hh
   obtain ⟨x5,hx5,hh⟩:=bs' hh
   refine sk' (S' (bk' (p' 3 rfl (i' rfl (T0 hx4) (D0.idx hx4) rfl (q' rfl (c' (ih0 _ _ hx5) rfl rfl (e' rfl (ci' rfl hh (fun hh=>?_) (fun hh=>?_)))))))))
   ·cases hh
    exact t' rfl (re' (rt' rfl rfl rfl))
   exact sk' (T' rfl (lw' (ih2 _ _ _ hh) rfl rfl rfl))
  cases hh
  exact ex' (t' rfl (re' (rt' rfl rfl rfl)))
theorem K14 {t res}(hh:N9 t=some res):Zs t res:=(U12).1 _ _ hh
end Go.Proofs.YtbmlpamppbcdeaaGreatDoor

