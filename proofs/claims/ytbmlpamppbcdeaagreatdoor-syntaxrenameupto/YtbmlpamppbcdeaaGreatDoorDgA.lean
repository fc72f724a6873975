/- A part of the proof of SyntaxRename. -/
import Derived.Test.YtbmlpamppbcdeaaGreatDoorXxA
import Derived.Test.YtbmlpamppbcdeaaGreatDoorAmF
set_option maxRecDepth 100000
set_option maxHeartbeats 4000000
set_option synthInstance.maxSize 20000
set_option linter.unusedVariables false
namespace Go.Proofs.YtbmlpamppbcdeaaGreatDoor
open Go.Am
instance:Nonempty (A3 C):=⟨hC⟩
def ebool.row (x:Bool):Row:=[.bool x]
def ebool.ents (m:List (Str×Bool)):List (Str×Row):=Gk ebool.row m
theorem ebool.mput (k:Str)(x:Bool)(m:List (Str×Bool)):mput k (ebool.row x) (ebool.ents m)=ebool.ents (mpt k x m):=(J1i ebool.row k x m).symm
def estr.row (x:Str):Row:=[.str x]
def estr.rows (l:List Str):List Row:=l.map estr.row
theorem estr.rows_map (l:List Str):estr.rows l=l.map estr.row:=rfl
theorem estr.idx {l:List Str}{n:Int}{x:Str}(h:idx l n=some x):(estr.rows l)[n.toNat]?=some (estr.row x):=Gt estr.rows_map h
theorem estr.app (l m:List Str):estr.rows (l++m)=estr.rows l++estr.rows m:=Ht estr.rows_map l m
theorem estr.len (l:List Str):(estr.rows l).length=l.length:=It estr.rows_map l
theorem estr.lenA (l:List Str):A.d (.int .i64 ((estr.rows l).length:Nat))=A.d (.int .i64 (l.length:Nat)):=Wq estr.rows_map l
theorem estr.sz (l:List Str):∀ r∈estr.rows l,r.length=1:=Ux estr.rows_map (fun _=>rfl) l
def ei64.row (x:Int):Row:=[.int .i64 x]
def ei64.rows (l:List Int):List Row:=l.map ei64.row
theorem ei64.rows_map (l:List Int):ei64.rows l=l.map ei64.row:=rfl
theorem ei64.idx {l:List Int}{n:Int}{x:Int}(h:idx l n=some x):(ei64.rows l)[n.toNat]?=some (ei64.row x):=Gt ei64.rows_map h
theorem ei64.app (l m:List Int):ei64.rows (l++m)=ei64.rows l++ei64.rows m:=Ht ei64.rows_map l m
theorem ei64.len (l:List Int):(ei64.rows l).length=l.length:=It ei64.rows_map l
theorem ei64.lenA (l:List Int):A.d (.int .i64 ((ei64.rows l).length:Nat))=A.d (.int .i64 (l.length:Nat)):=Wq ei64.rows_map l
theorem ei64.sz (l:List Int):∀ r∈ei64.rows l,r.length=1:=Ux ei64.rows_map (fun _=>rfl) l
structure F0 where
 Kind:Int
 Low:Int
 High:Int
 Size:Int
 Name:Str
 Names:List Str
 Of:List F0
def F0.zero:F0:=⟨0,0,0,0,[],[],[]⟩
instance:Inhabited F0:=⟨F0.zero⟩
mutual
def F0.rowX:F0→Row
 | .mk y0 y1 y2 y3 y4 y5 y6=>[.int .i64 y0,.int .i64 y1,.int .i64 y2,.int .i64 y3,.str y4,.sl (estr.rows y5),.sl (F0.rowsX y6)]
def F0.rowsX:List F0→List Row
 | []=>[]
 | x::r=>F0.rowX x::F0.rowsX r
end
def F0.rows (l:List F0):List Row:=F0.rowsX l
def F0.row (x:F0):Row:=[.int .i64 x.Kind,.int .i64 x.Low,.int .i64 x.High,.int .i64 x.Size,.str x.Name,.sl (estr.rows x.Names),.sl (F0.rows x.Of)]
theorem F0.rows_map:∀ l,F0.rows l=l.map F0.row
 | []=>rfl
 | x::r=>by
  show F0.rowX x::F0.rows r=F0.row x::r.map F0.row
  rw [F0.rows_map r]
  cases x
  rfl
def F0.cells (x:F0):List A:=[.d (.int .i64 x.Kind),.d (.int .i64 x.Low),.d (.int .i64 x.High),.d (.int .i64 x.Size),.d (.str x.Name),.d (.sl (estr.rows x.Names)),.d (.sl (F0.rows x.Of))]
theorem F0.idx {l:List F0}{n:Int}{x:F0}(h:idx l n=some x):(F0.rows l)[n.toNat]?=some (F0.row x):=Gt F0.rows_map h
theorem F0.app (l m:List F0):F0.rows (l++m)=F0.rows l++F0.rows m:=Ht F0.rows_map l m
theorem F0.len (l:List F0):(F0.rows l).length=l.length:=It F0.rows_map l
theorem F0.lenA (l:List F0):A.d (.int .i64 ((F0.rows l).length:Nat))=A.d (.int .i64 (l.length:Nat)):=Wq F0.rows_map l
theorem F0.sz (l:List F0):∀ r∈F0.rows l,r.length=7:=Ux F0.rows_map (fun _=>rfl) l
structure A0 where
 Op:Int
 NV:Int
 Name:Str
 Kids:List A0
def A0.zero:A0:=⟨0,0,[],[]⟩
instance:Inhabited A0:=⟨A0.zero⟩
mutual
def A0.rowX:A0→Row
 | .mk y0 y1 y2 y3=>[.int .i64 y0,.int .i64 y1,.str y2,.sl (A0.rowsX y3)]
def A0.rowsX:List A0→List Row
 | []=>[]
 | x::r=>A0.rowX x::A0.rowsX r
end
def A0.rows (l:List A0):List Row:=A0.rowsX l
def A0.row (x:A0):Row:=[.int .i64 x.Op,.int .i64 x.NV,.str x.Name,.sl (A0.rows x.Kids)]
theorem A0.rows_map:∀ l,A0.rows l=l.map A0.row
 | []=>rfl
 | x::r=>by
  show A0.rowX x::A0.rows r=A0.row x::r.map A0.row
  rw [A0.rows_map r]
  cases x
  rfl
def A0.cells (x:A0):List A:=[.d (.int .i64 x.Op),.d (.int .i64 x.NV),.d (.str x.Name),.d (.sl (A0.rows x.Kids))]
theorem A0.idx {l:List A0}{n:Int}{x:A0}(h:idx l n=some x):(A0.rows l)[n.toNat]?=some (A0.row x):=Gt A0.rows_map h
theorem A0.app (l m:List A0):A0.rows (l++m)=A0.rows l++A0.rows m:=Ht A0.rows_map l m
theorem A0.len (l:List A0):(A0.rows l).length=l.length:=It A0.rows_map l
theorem A0.lenA (l:List A0):A.d (.int .i64 ((A0.rows l).length:Nat))=A.d (.int .i64 (l.length:Nat)):=Wq A0.rows_map l
theorem A0.sz (l:List A0):∀ r∈A0.rows l,r.length=4:=Ux A0.rows_map (fun _=>rfl) l
structure C0 where
 Verb:Int
 Place:A0
 Value:A0
 Name:Str
 Args:List A0
 NV:Int
 Low:Int
 High:Int
 Numbers:List Int
 Then:List C0
 Else:List C0
def C0.zero:C0:=⟨0,⟨0,0,[],[]⟩,⟨0,0,[],[]⟩,[],[],0,0,0,[],[],[]⟩
instance:Inhabited C0:=⟨C0.zero⟩
mutual
def C0.rowX:C0→Row
 | .mk y0 y1 y2 y3 y4 y5 y6 y7 y8 y9 y10=>[.int .i64 y0,.int .i64 y1.Op,.int .i64 y1.NV,.str y1.Name,.sl (A0.rows y1.Kids),.int .i64 y2.Op,.int .i64 y2.NV,.str y2.Name,.sl (A0.rows y2.Kids),.str y3,.sl (A0.rows y4),.int .i64 y5,.int .i64 y6,.int .i64 y7,.sl (ei64.rows y8),.sl (C0.rowsX y9),.sl (C0.rowsX y10)]
def C0.rowsX:List C0→List Row
 | []=>[]
 | x::r=>C0.rowX x::C0.rowsX r
end
def C0.rows (l:List C0):List Row:=C0.rowsX l
def C0.row (x:C0):Row:=[.int .i64 x.Verb,.int .i64 x.Place.Op,.int .i64 x.Place.NV,.str x.Place.Name,.sl (A0.rows x.Place.Kids),.int .i64 x.Value.Op,.int .i64 x.Value.NV,.str x.Value.Name,.sl (A0.rows x.Value.Kids),.str x.Name,.sl (A0.rows x.Args),.int .i64 x.NV,.int .i64 x.Low,.int .i64 x.High,.sl (ei64.rows x.Numbers),.sl (C0.rows x.Then),.sl (C0.rows x.Else)]
theorem C0.rows_map:∀ l,C0.rows l=l.map C0.row
 | []=>rfl
 | x::r=>by
  show C0.rowX x::C0.rows r=C0.row x::r.map C0.row
  rw [C0.rows_map r]
  cases x
  rfl
def C0.cells (x:C0):List A:=[.d (.int .i64 x.Verb),.d (.int .i64 x.Place.Op),.d (.int .i64 x.Place.NV),.d (.str x.Place.Name),.d (.sl (A0.rows x.Place.Kids)),.d (.int .i64 x.Value.Op),.d (.int .i64 x.Value.NV),.d (.str x.Value.Name),.d (.sl (A0.rows x.Value.Kids)),.d (.str x.Name),.d (.sl (A0.rows x.Args)),.d (.int .i64 x.NV),.d (.int .i64 x.Low),.d (.int .i64 x.High),.d (.sl (ei64.rows x.Numbers)),.d (.sl (C0.rows x.Then)),.d (.sl (C0.rows x.Else))]
theorem C0.idx {l:List C0}{n:Int}{x:C0}(h:idx l n=some x):(C0.rows l)[n.toNat]?=some (C0.row x):=Gt C0.rows_map h
theorem C0.app (l m:List C0):C0.rows (l++m)=C0.rows l++C0.rows m:=Ht C0.rows_map l m
theorem C0.len (l:List C0):(C0.rows l).length=l.length:=It C0.rows_map l
theorem C0.lenA (l:List C0):A.d (.int .i64 ((C0.rows l).length:Nat))=A.d (.int .i64 (l.length:Nat)):=Wq C0.rows_map l
theorem C0.sz (l:List C0):∀ r∈C0.rows l,r.length=17:=Ux C0.rows_map (fun _=>rfl) l
structure D0 where
 Kind:Int
 Name:Str
 TypeV:F0
 Init:Int
 Value:A0
 Params:List D0
 Vars:List D0
 Body:List C0
def D0.zero:D0:=⟨0,[],⟨0,0,0,0,[],[],[]⟩,0,⟨0,0,[],[]⟩,[],[],[]⟩
instance:Inhabited D0:=⟨D0.zero⟩
mutual
def D0.rowX:D0→Row
 | .mk y0 y1 y2 y3 y4 y5 y6 y7=>[.int .i64 y0,.str y1,.int .i64 y2.Kind,.int .i64 y2.Low,.int .i64 y2.High,.int .i64 y2.Size,.str y2.Name,.sl (estr.rows y2.Names),.sl (F0.rows y2.Of),.int .i64 y3,.int .i64 y4.Op,.int .i64 y4.NV,.str y4.Name,.sl (A0.rows y4.Kids),.sl (D0.rowsX y5),.sl (D0.rowsX y6),.sl (C0.rows y7)]
def D0.rowsX:List D0→List Row
 | []=>[]
 | x::r=>D0.rowX x::D0.rowsX r
end
def D0.rows (l:List D0):List Row:=D0.rowsX l
def D0.row (x:D0):Row:=[.int .i64 x.Kind,.str x.Name,.int .i64 x.TypeV.Kind,.int .i64 x.TypeV.Low,.int .i64 x.TypeV.High,.int .i64 x.TypeV.Size,.str x.TypeV.Name,.sl (estr.rows x.TypeV.Names),.sl (F0.rows x.TypeV.Of),.int .i64 x.Init,.int .i64 x.Value.Op,.int .i64 x.Value.NV,.str x.Value.Name,.sl (A0.rows x.Value.Kids),.sl (D0.rows x.Params),.sl (D0.rows x.Vars),.sl (C0.rows x.Body)]
theorem D0.rows_map:∀ l,D0.rows l=l.map D0.row
 | []=>rfl
 | x::r=>by
  show D0.rowX x::D0.rows r=D0.row x::r.map D0.row
  rw [D0.rows_map r]
  cases x
  rfl
def D0.cells (x:D0):List A:=[.d (.int .i64 x.Kind),.d (.str x.Name),.d (.int .i64 x.TypeV.Kind),.d (.int .i64 x.TypeV.Low),.d (.int .i64 x.TypeV.High),.d (.int .i64 x.TypeV.Size),.d (.str x.TypeV.Name),.d (.sl (estr.rows x.TypeV.Names)),.d (.sl (F0.rows x.TypeV.Of)),.d (.int .i64 x.Init),.d (.int .i64 x.Value.Op),.d (.int .i64 x.Value.NV),.d (.str x.Value.Name),.d (.sl (A0.rows x.Value.Kids)),.d (.sl (D0.rows x.Params)),.d (.sl (D0.rows x.Vars)),.d (.sl (C0.rows x.Body))]
theorem D0.idx {l:List D0}{n:Int}{x:D0}(h:idx l n=some x):(D0.rows l)[n.toNat]?=some (D0.row x):=Gt D0.rows_map h
theorem D0.app (l m:List D0):D0.rows (l++m)=D0.rows l++D0.rows m:=Ht D0.rows_map l m
theorem D0.len (l:List D0):(D0.rows l).length=l.length:=It D0.rows_map l
theorem D0.lenA (l:List D0):A.d (.int .i64 ((D0.rows l).length:Nat))=A.d (.int .i64 (l.length:Nat)):=Wq D0.rows_map l
theorem D0.sz (l:List D0):∀ r∈D0.rows l,r.length=17:=Ux D0.rows_map (fun _=>rfl) l
structure O0 where
 Decls:List D0
 Body:List C0
def O0.zero:O0:=⟨[],[]⟩
instance:Inhabited O0:=⟨O0.zero⟩
def O0.row (x:O0):Row:=[.sl (D0.rows x.Decls),.sl (C0.rows x.Body)]
def O0.rows (l:List O0):List Row:=l.map O0.row
theorem O0.rows_map (l:List O0):O0.rows l=l.map O0.row:=rfl
def O0.cells (x:O0):List A:=[.d (.sl (D0.rows x.Decls)),.d (.sl (C0.rows x.Body))]
structure J0 where
 nodes:Int
 depth:Int
 badForm:Bool
 badName:Bool
 badNumber:Bool
def J0.zero:J0:=⟨0,0,false,false,false⟩
instance:Inhabited J0:=⟨J0.zero⟩
def J0.cells (x:J0):List A:=[.d (.int .i64 x.nodes),.d (.int .i64 x.depth),.d (.bool x.badForm),.d (.bool x.badName),.d (.bool x.badNumber)]
structure I1 where
 place:Bool
 value:Bool
 name:Bool
 args:Bool
 n:Bool
 bounds:Bool
 numbers:Bool
 thenV:Bool
 other:Bool
def I1.zero:I1:=⟨false,false,false,false,false,false,false,false,false⟩
instance:Inhabited I1:=⟨I1.zero⟩
def I1.cells (x:I1):List A:=[.d (.bool x.place),.d (.bool x.value),.d (.bool x.name),.d (.bool x.args),.d (.bool x.n),.d (.bool x.bounds),.d (.bool x.numbers),.d (.bool x.thenV),.d (.bool x.other)]
structure Q0 where
 nodes:Int
 depth:Int
def Q0.zero:Q0:=⟨0,0⟩
instance:Inhabited Q0:=⟨Q0.zero⟩
def Q0.cells (x:Q0):List A:=[.d (.int .i64 x.nodes),.d (.int .i64 x.depth)]
end Go.Proofs.YtbmlpamppbcdeaaGreatDoor

set_option maxRecDepth 100000
set_option maxHeartbeats 4000000
set_option synthInstance.maxSize 20000
set_option linter.unusedVariables false
namespace Go.Proofs.YtbmlpamppbcdeaaGreatDoor
open Go.Am
def R7 (l:List Str):Option (List Str):=if decide ((0+l.length) * 17≤140737488355328)=true then some l else none
theorem Al {l res:List Str}(hh:R7 l=some res):N0 C 193 [.d (.sl (estr.rows l))] [] (fun x H'=>H'=[]∧x = .d (.sl (estr.rows res))):=by
 obtain ⟨hroom,hh⟩:=U0 hh
 cases hh
 refine N0.intro hC Tryz.func193 rfl rfl rfl ?_
 refine AEx.seq ?_
 refine AEx.regionN rfl rfl ?_
 refine K0.q hC rfl trivial ?_
 refine K0.nil ?_
 refine AEx.seq ?_
 refine AEx.seq ?_
 refine AEx.regionN rfl rfl ?_
 refine K0.q hC rfl trivial ?_
 refine K0.z hC rfl fun b hnil=>?_
 refine K0.nil ?_
 refine AEx.cond rfl (fun hb=>?_) (fun hb=>?_)
 ·obtain rfl:l=[]:=List.eq_nil_of_length_eq_zero (by have:=estr.len l; rw [hnil hb] at this; exact this.symm)
  refine AEx.seq ?_
  refine AEx.regionN rfl rfl ?_
  refine K0.q hC rfl trivial ?_
  skip
  refine K0.nil ?_
  refine AEx.ret ?_
  exact ⟨_,.d (.sl (estr.rows [])),[],rfl,.full,trivial,rfl,rfl,rfl,rfl⟩
 ·refine AEx.skip ?_
  refine AEx.seq ?_
  refine AEx.regionN rfl rfl ?_
  refine K0.b hC rfl ?_
  refine K0.q hC rfl trivial ?_
  refine K0.ap hC rfl (rs:=estr.rows l) rfl (fun r hr=>absurd hr (List.not_mem_nil)) (estr.sz l) (T2 rfl (estr.len l) hroom) ?_
  refine K0.q hC rfl trivial ?_
  refine K0.nil ?_
  refine AEx.ret ?_
  exact ⟨_,.d (.sl (estr.rows l)),[],rfl,.osl,trivial,rfl,rfl,rfl,rfl⟩
def Nd (l:List Int):Option (List Int):=if decide ((0+l.length) * 9≤140737488355328)=true then some l else none
theorem Wo {l res:List Int}(hh:Nd l=some res):N0 C 110 [.d (.sl (ei64.rows l))] [] (fun x H'=>H'=[]∧x = .d (.sl (ei64.rows res))):=by
 obtain ⟨hroom,hh⟩:=U0 hh
 cases hh
 refine N0.intro hC Tryz.func110 rfl rfl rfl ?_
 refine AEx.seq ?_
 refine AEx.regionN rfl rfl ?_
 refine K0.q hC rfl trivial ?_
 refine K0.nil ?_
 refine AEx.seq ?_
 refine AEx.seq ?_
 refine AEx.regionN rfl rfl ?_
 refine K0.q hC rfl trivial ?_
 refine K0.z hC rfl fun b hnil=>?_
 refine K0.nil ?_
 refine AEx.cond rfl (fun hb=>?_) (fun hb=>?_)
 ·obtain rfl:l=[]:=List.eq_nil_of_length_eq_zero (by have:=ei64.len l; rw [hnil hb] at this; exact this.symm)
  refine AEx.seq ?_
  refine AEx.regionN rfl rfl ?_
  refine K0.q hC rfl trivial ?_
  skip
  refine K0.nil ?_
  refine AEx.ret ?_
  exact ⟨_,.d (.sl (ei64.rows [])),[],rfl,.full,trivial,rfl,rfl,rfl,rfl⟩
 ·refine AEx.skip ?_
  refine AEx.seq ?_
  refine AEx.regionN rfl rfl ?_
  refine K0.b hC rfl ?_
  refine K0.q hC rfl trivial ?_
  refine K0.ap hC rfl (rs:=ei64.rows l) rfl (fun r hr=>absurd hr (List.not_mem_nil)) (ei64.sz l) (T2 rfl (ei64.len l) hroom) ?_
  refine K0.q hC rfl trivial ?_
  refine K0.nil ?_
  refine AEx.ret ?_
  exact ⟨_,.d (.sl (ei64.rows l)),[],rfl,.osl,trivial,rfl,rfl,rfl,rfl⟩
def Xn (n:Int):Option A0:=
 some (A0.mk 0 n [] [])
theorem Iy {n res}(hh:Xn n=some res):N0 C 36 [.d (.int .i64 n)] [] (Ret [] (.agg (A0.cells res))):=by
 unfold Xn at hh
 cases hh
 exact N0.intro hC Tryz.func36 rfl rfl rfl (s' rfl rfl (K0.nf hC rfl (n' (p' 2 rfl (K0.s hC rfl (n' (re' (rt' rfl rfl rfl))))))))
def Od (o:Int)(kids:List A0):Option A0:=
 some (A0.mk o 0 [] kids)
theorem Ji {o kids res}(hh:Od o kids=some res):N0 C 35 [.d (.int .i64 o),.d (.sl (A0.rows kids))] [] (Ret [] (.agg (A0.cells res))):=by
 unfold Od at hh
 cases hh
 exact N0.intro hC Tryz.func35 rfl rfl rfl (s' rfl rfl (K0.nf hC rfl (n' (p' 3 rfl (K0.s hC rfl (n' (re' (rt' rfl rfl rfl))))))))
def Sb (s:Str):Option A0:=
 some (A0.mk 3 0 s [])
theorem Cf {s res}(hh:Sb s=some res):N0 C 37 [.d (.str s)] [] (Ret [] (.agg (A0.cells res))):=by
 unfold Sb at hh
 cases hh
 exact N0.intro hC Tryz.func37 rfl rfl rfl (s' rfl rfl (K0.nf hC rfl (n' (p' 2 rfl (K0.s hC rfl (n' (re' (rt' rfl rfl rfl))))))))
def R5 (d:Int)(syntaxReport:J0):Option J0:=
 some (J0.mk syntaxReport.nodes (max syntaxReport.depth d) syntaxReport.badForm syntaxReport.badName syntaxReport.badNumber)
theorem Sl {d syntaxReport res}(hh:R5 d syntaxReport=some res):N0 C 170 [.ref 0 0,.d (.int .i64 d)] [.row (J0.cells syntaxReport) 142] (Ret [.row (J0.cells res) 142] (.tup [])):=by
 unfold R5 at hh
 cases hh
 exact N0.intro hC Tryz.func170 rfl rfl rfl (P' 9 rfl (K0.s hC rfl (n' (rn' rfl rfl rfl))))
def Ia (op:Int)(v9:Bool):Option Int:=
 if v9=true then
  some 1
 else
  if (op == 5)=true then
   some 2
  else
   if (op == 23)=true then
    some 3
   else
    if (bif (decide (op≥8)) then (decide (op≤22)) else false)=true then
     some 2
    else
     some (-1)
theorem Yn {op v9 res}(hh:Ia op v9=some res):JM C 23 0 Tryz.f172 [1,0,1,4,1,3,1] [(0,.d (.int .i64 op)),(3,.d (.int .i64 op)),(9,.d (.bool v9))] [] (Ret [] (.d (.int .i64 res))):=by
 unfold Ia at hh
 refine ci' rfl hh (fun hh=>?_) (fun hh=>?_)
 ·cases hh
  exact t' rfl (re' (rt' rfl rfl rfl))
 refine t' rfl (ci' rfl hh (fun hh=>?_) (fun hh=>?_))
 ·cases hh
  exact t' rfl (re' (rt' rfl rfl rfl))
 refine t' rfl (ci' rfl hh (fun hh=>?_) (fun hh=>?_))
 ·cases hh
  exact t' rfl (re' (rt' rfl rfl rfl))
 refine sk' (S' (sg' 6 rfl (G' 4 rfl (a1' rfl (pa' rfl (an' (n' (ci' rfl hh (fun hh=>?_) (fun hh=>?_)))))))))
 ·cases hh
  exact t' rfl (re' (rt' rfl rfl rfl))
 cases hh
 exact sk' (t' rfl (re' (rt' rfl rfl rfl)))
def N8 (op:Int)(v4:Bool):Option Int:=
 if v4=true then
  some 0
 else
  if (op == 4)=true then
   Ia op (op == 4)
  else
   if (op == 6)=true then
    Ia op (op == 6)
   else
    Ia op (op == 7)
theorem Hk {op v4 res}(hh:N8 op v4=some res):JM C 23 0 Tryz.f172 [1,0,1,4,1] [(0,.d (.int .i64 op)),(3,.d (.int .i64 op)),(4,.d (.bool v4))] [] (Ret [] (.d (.int .i64 res))):=by
 unfold N8 at hh
 refine ci' rfl hh (fun hh=>?_) (fun hh=>?_)
 ·cases hh
  exact t' rfl (re' (rt' rfl rfl rfl))
 refine S' (t' rfl (ci' rfl hh (fun hh=>?_) (fun hh=>?_)))
 ·exact sk' (ew' (Yn hh) rfl rfl rfl)
 refine t' rfl (ci' rfl hh (fun hh=>?_) (fun hh=>?_))
 ·exact sk' (ew' (Yn hh) rfl rfl rfl)
 exact T' rfl (ew' (Yn hh) rfl rfl rfl)
def Jj (op:Int):Option Int:=
 if (op == 0)=true then
  N8 op (op == 0)
 else
  if (op == 1)=true then
   N8 op (op == 1)
  else
   if (op == 2)=true then
    N8 op (op == 2)
   else
    N8 op (op == 3)
theorem U1d {op res}(hh:Jj op=some res):N0 C 172 [.d (.int .i64 op)] [] (Ret [] (.d (.int .i64 res))):=by
 unfold Jj at hh
 refine N0.intro hC Tryz.func172 rfl rfl rfl (t' rfl (S' (t' rfl (bk' (S' (t' rfl (ci' rfl hh (fun hh=>?_) (fun hh=>?_))))))))
 ·exact sk' (ew' (Hk hh) rfl rfl rfl)
 refine t' rfl (ci' rfl hh (fun hh=>?_) (fun hh=>?_))
 ·exact sk' (ew' (Hk hh) rfl rfl rfl)
 refine t' rfl (ci' rfl hh (fun hh=>?_) (fun hh=>?_))
 ·exact sk' (ew' (Hk hh) rfl rfl rfl)
 exact T' rfl (ew' (Hk hh) rfl rfl rfl)
def T0 (ok:Bool)(syntaxReport:J0):Option J0:=
 some (J0.mk syntaxReport.nodes syntaxReport.depth (bif syntaxReport.badForm then true else (!ok)) syntaxReport.badName syntaxReport.badNumber)
theorem X0 {ok syntaxReport res}(hh:T0 ok syntaxReport=some res):N0 C 171 [.ref 0 0,.d (.bool ok)] [.row (J0.cells syntaxReport) 142] (Ret [.row (J0.cells res) 142] (.tup [])):=by
 unfold T0 at hh
 cases hh
 exact N0.intro hC Tryz.func171 rfl rfl rfl (AEx.regionG 11 rfl (G' 7 rfl (a1' rfl (po' rfl (G' 2 rfl (an' (K0.s hC rfl (n' (rn' rfl rfl rfl)))))))))
def O8 (o0:A0):Option Bool:=
 if (bif (o0.Op == 4) then true else (o0.Op == 5))=true then
  if (((o0.Kids).length:Int) == 0)=true then
   some false
  else
   idx o0.Kids 0>>=fun x1=>
   O8 x1
 else
  some (o0.Op == 3)
 partial_fixpoint
abbrev Aw (o0:A0)(res:Bool):Prop:=LM C 22 0 Tryz.f173 [1,0,4] [(1,.ref 0 0)] [.row (A0.cells o0) 40] (Ret [] (.d (.bool res)))
theorem R16:(∀ o0 res,O8 o0=some res→Aw o0 res):=by
 refine O8.partial_correctness _ ?_
 ·intro g0 ih0 o0 res hh
  refine Y0.unroll (S' (sg' 8 rfl (G' 5 rfl (a1' rfl (a1' rfl (po' rfl (an' (n' (ci' rfl hh (fun hh=>?_) (fun hh=>?_))))))))))
  ·refine sk' (bk' (S' (p' 2 rfl (qe' rfl trivial (A0.lenA _) (e' rfl (ci' rfl hh (fun hh=>?_) (fun hh=>?_)))))))
   ·cases hh
    exact t' rfl (re' (rt' rfl rfl rfl))
   obtain ⟨x1,hx1,hh⟩:=bs' hh
   exact sk' (P' 2 rfl (i' rfl (S0 hx1) (A0.idx hx1) rfl (q' rfl (K0.s hC rfl (n' (lw' (ih0 _ _ hh) rfl rfl rfl))))))
  cases hh
  exact ex' (t' rfl (re' (rt' rfl rfl rfl)))
theorem P18 {o0 res}(hh:O8 o0=some res):Aw o0 res:=(R16) _ _ hh
def Dh (e:A0):Option Bool:=
 O8 e
theorem X10 {e res}(hh:Dh e=some res):N0 C 173 [.agg (A0.cells e)] [] (Ret [] (.d (.bool res))):=by
 unfold Dh at hh
 exact N0.intro hC Tryz.func173 rfl rfl rfl (s' rfl rfl (K0.n hC rfl (e' rfl (S' (bk' (fw' (P18 hh) rfl rfl rfl))))))
def Ej (c:Int):Option Bool:=
 some (bif (decide (c≥97)) then (decide (c≤122)) else false)
theorem O1a {c res}(hh:Ej c=some res):N0 C 242 [.d (.int .u8 c)] [] (Ret [] (.d (.bool res))):=by
 unfold Ej at hh
 cases hh
 exact N0.intro hC Tryz.func242 rfl rfl rfl (t' rfl (sg' 7 rfl (G' 4 rfl (a1' rfl (pa' rfl (a0' rfl (an' (n' (re' (rt' rfl rfl rfl))))))))))
def Bk (c:Int):Option Bool:=
 some (bif (decide (c≥48)) then (decide (c≤57)) else false)
theorem X1b {c res}(hh:Bk c=some res):N0 C 243 [.d (.int .u8 c)] [] (Ret [] (.d (.bool res))):=by
 unfold Bk at hh
 cases hh
 exact N0.intro hC Tryz.func243 rfl rfl rfl (t' rfl (sg' 7 rfl (G' 4 rfl (a1' rfl (pa' rfl (a0' rfl (an' (n' (re' (rt' rfl rfl rfl))))))))))
def S5 (s:Str)(v6:Int):Option Bool:=
 if (decide (v6 < ((s).length:Int)))=true then
  idx s v6>>=fun x1=>
  Ej (x1.toNat:Int)>>=fun x2=>
  (if ((!x2)&&(!(v6 == 0)))=true then idx s v6 else some default)>>=fun x3=>
  (if ((!x2)&&(!(v6 == 0)))=true then Bk (x3.toNat:Int) else some default)>>=fun x4=>
  if (bif (!x2) then (bif (v6 == 0) then true else (!x4)) else false)=true then
   some false
  else
   S5 s (IntKind.i64.wrap (v6+1))
 else
  some (!(s == []))
 partial_fixpoint
abbrev Bw (s:Str)(v6:Int)(res:Bool):Prop:=LM C 28 0 Tryz.f191 [1,0,1,4] [(0,.d (.str s)),(5,.d (.int .i64 ((s).length:Int))),(6,.d (.int .i64 v6))] [] (Ret [] (.d (.bool res)))
theorem S16 (s:Str):(∀ v6 res,S5 s v6=some res→Bw s v6 res):=by
 refine S5.partial_correctness s _ ?_
 ·intro g0 ih0 v6 res hh
  refine Y0.unroll (t' rfl (S' (ci' rfl hh (fun hh=>?_) (fun hh=>?_))))
  ·obtain ⟨x1,hx1,hh⟩:=bs' hh
   obtain ⟨x2,hx2,hh⟩:=bs' hh
   obtain ⟨x3,hx3,hh⟩:=bs' hh
   obtain ⟨x4,hx4,hh⟩:=bs' hh
   refine sk' (S' (bk' (t' rfl (sg' 16 rfl (G' 2 rfl (AG.x hC rfl rfl (fun _=>trivial) (fun hw=>⟨S0 hx1,Ft hx1⟩) (AG.c rfl rfl (fun _=>trivial) (fun _=>O1a hx2) (G' 3 rfl (a1' rfl (a1' rfl (G' 2 rfl (AG.x hC rfl rfl (fun hg=>⟨hg,hg,trivial⟩) (fun hw=>⟨S0 (L1 hw hx3),Ft (L1 hw hx3)⟩) (AG.c rfl rfl (fun hg=>⟨hg,trivial⟩) (fun hw=>X1b (L1 hw hx4)) ?_)))))))))))))
   refine a1' rfl (pO' rfl (pa' rfl (an' (n' (ci' rfl hh (fun hh=>?_) (fun hh=>?_))))))
   ·cases hh
    exact t' rfl (re' (rt' rfl rfl rfl))
   exact sk' (T' rfl (lw' (ih0 _ _ hh) rfl rfl rfl))
  cases hh
  exact ex' (t' rfl (re' (rt' rfl rfl rfl)))
theorem Q18 {s v6 res}(hh:S5 s v6=some res):Bw s v6 res:=(S16 s) _ _ hh
def Tl (s:Str):Option Bool:=
 S5 s 0
theorem V1d {s res}(hh:Tl s=some res):N0 C 191 [.d (.str s)] [] (Ret [] (.d (.bool res))):=by
 unfold Tl at hh
 exact N0.intro hC Tryz.func191 rfl rfl rfl (t' rfl (S' (t' rfl (bk' (fw' (Q18 hh) rfl rfl rfl)))))
def Fg (J5:Str):Option Bool:=
 (if (!(J5 == []))=true then Sm J5 [32] else some default)>>=fun x1=>
 if (!(bif (!(J5 == [])) then (!x1) else false)||(decide (1+J5.length≤maxLen)))=true then
  if (!(bif (!(J5 == [])) then (!x1) else false)||(decide (([32]++J5).length+1≤maxLen)))=true then
   (if (bif (!(J5 == [])) then (!x1) else false)=true then Sm [32,116,121,112,101,32,115,101,99,114,101,116,32,112,117,98,108,105,99,32,114,97,110,100,111,109,32,118,97,114,32,104,97,116,99,104,32,102,117,110,99,32,114,101,116,117,114,110,32,98,101,103,105,110,32,101,110,100,32,98,111,111,108,32,105,110,116,32,97,114,114,97,121,32,111,102,32,114,101,99,111,114,100,32,116,114,117,101,32,102,97,108,115,101,32,99,97,108,108,32,114,101,108,101,97,115,101,32,111,117,116,112,117,116,32,119,97,105,116,32,105,102,32,101,108,115,101,32,119,104,105,108,101,32,108,105,109,105,116,32,102,111,114,32,116,111,32,115,101,116,116,108,101,32,109,105,110,32,109,97,120,32] (([32]++J5)++[32]) else some default)>>=fun x2=>
   some (bif (bif (!(J5 == [])) then (!x1) else false) then x2 else false)
  else none
 else none
theorem P1a {J5 res}(hh:Fg J5=some res):N0 C 192 [.d (.str J5)] [] (Ret [] (.d (.bool res))):=by
 unfold Fg at hh
 obtain ⟨x1,hx1,hh⟩:=bs' hh
 obtain ⟨c9,hh⟩:=I1i hh
 obtain ⟨c10,hh⟩:=I1i hh
 obtain ⟨x2,hx2,hh⟩:=bs' hh
 cases hh
 refine N0.intro hC Tryz.func192 rfl rfl rfl (t' rfl (sg' 14 rfl (G' 4 rfl (AG.c rfl rfl (fun hg=>⟨hg,trivial⟩) (fun hw=>M16 (L1 hw hx1)) (a1' rfl (pa' rfl (G' 2 rfl (ag' rfl (fun hg=>⟨⟨hg,trivial⟩,(c9 hg)⟩) (ag' rfl (fun hg=>⟨⟨hg,trivial⟩,(c10 hg)⟩) (AG.c rfl rfl (fun hg=>⟨hg,trivial⟩) (fun hw=>M16 (L1 hw hx2)) (pa' rfl (a0' rfl (an' ?_)))))))))))))
 exact n' (re' (rt' rfl rfl rfl))
def Ul (s:Str):Option Bool:=
 (if (decide (((s).length:Int)≤12))=true then Tl s else some default)>>=fun x1=>
 (if (bif (decide (((s).length:Int)≤12)) then x1 else false)=true then Fg s else some default)>>=fun x2=>
 some (bif (bif (decide (((s).length:Int)≤12)) then x1 else false) then (!x2) else false)
theorem W1d {s res}(hh:Ul s=some res):N0 C 104 [.d (.str s)] [] (Ret [] (.d (.bool res))):=by
 unfold Ul at hh
 obtain ⟨x1,hx1,hh⟩:=bs' hh
 obtain ⟨x2,hx2,hh⟩:=bs' hh
 cases hh
 exact N0.intro hC Tryz.func104 rfl rfl rfl (t' rfl (sg' 13 rfl (G' 5 rfl (AG.c rfl rfl (fun hg=>⟨hg,trivial⟩) (fun hw=>V1d (L1 hw hx1)) (pa' rfl (G' 2 rfl (AG.c rfl rfl (fun hg=>⟨hg,trivial⟩) (fun hw=>P1a (L1 hw hx2)) (a1' rfl (pa' rfl (a0' rfl (an' (n' (re' (rt' rfl rfl rfl))))))))))))))
def Q9 (s:Str):Option Bool:=
 Ul s>>=fun x1=>
 some x1
theorem Kq {s res}(hh:Q9 s=some res):N0 C 48 [.d (.str s)] [] (Ret [] (.d (.bool res))):=by
 unfold Q9 at hh
 obtain ⟨x1,hx1,hh⟩:=bs' hh
 cases hh
 exact N0.intro hC Tryz.func48 rfl rfl rfl (t' rfl (p' 1 rfl (c' (W1d hx1) rfl rfl (e' rfl (re' (rt' rfl rfl rfl))))))
def E3 (s:Str)(syntaxReport:J0):Option J0:=
 (if (!syntaxReport.badName)=true then Q9 s else some default)>>=fun x1=>
 some (J0.mk syntaxReport.nodes syntaxReport.depth syntaxReport.badForm (bif syntaxReport.badName then true else (!x1)) syntaxReport.badNumber)
theorem Cc {s syntaxReport res}(hh:E3 s syntaxReport=some res):N0 C 174 [.ref 0 0,.d (.str s)] [.row (J0.cells syntaxReport) 142] (Ret [.row (J0.cells res) 142] (.tup [])):=by
 unfold E3 at hh
 obtain ⟨x1,hx1,hh⟩:=bs' hh
 cases hh
 exact N0.intro hC Tryz.func174 rfl rfl rfl (AEx.regionG 12 rfl (G' 7 rfl (AG.c rfl rfl (fun hg=>⟨hg,trivial⟩) (fun hw=>Kq (L1 hw hx1)) (a1' rfl (po' rfl (G' 2 rfl (an' (K0.s hC rfl (n' (rn' rfl rfl rfl))))))))))
def Y2 (n:Int)(low:Int)(high:Int):Option Bool:=
 some (bif (decide (n≥low)) then (decide (n≤high)) else false)
theorem F4 {n low high res}(hh:Y2 n low high=some res):N0 C 176 [.d (.int .i64 n),.d (.int .i64 low),.d (.int .i64 high)] [] (Ret [] (.d (.bool res))):=by
 unfold Y2 at hh
 cases hh
 exact N0.intro hC Tryz.func176 rfl rfl rfl (t' rfl (sg' 9 rfl (G' 6 rfl (a2' rfl (pa' rfl (a0' rfl (an' (n' (re' (rt' rfl rfl rfl))))))))))
def U1 (ok:Bool)(syntaxReport:J0):Option J0:=
 some (J0.mk syntaxReport.nodes syntaxReport.depth syntaxReport.badForm syntaxReport.badName (bif syntaxReport.badNumber then true else (!ok)))
theorem W2 {ok syntaxReport res}(hh:U1 ok syntaxReport=some res):N0 C 175 [.ref 0 0,.d (.bool ok)] [.row (J0.cells syntaxReport) 142] (Ret [.row (J0.cells res) 142] (.tup [])):=by
 unfold U1 at hh
 cases hh
 exact N0.intro hC Tryz.func175 rfl rfl rfl (AEx.regionG 11 rfl (G' 7 rfl (a1' rfl (po' rfl (G' 2 rfl (an' (K0.s hC rfl (n' (rn' rfl rfl rfl)))))))))
mutual
def E2 (e:A0)(depth:Int)(syntaxReport:J0):Option J0:=
 R5 depth (J0.mk (IntKind.i64.wrap (syntaxReport.nodes+1)) syntaxReport.depth syntaxReport.badForm syntaxReport.badName syntaxReport.badNumber)>>=fun x1=>
 Jj e.Op>>=fun x2=>
 T0 (x2 == ((e.Kids).length:Int)) x1>>=fun x3=>
 T0 (bif (e.NV == 0) then true else (e.Op == 0)) x3>>=fun x4=>
 T0 (bif (e.Name == []) then true else (bif (e.Op == 3) then true else (e.Op == 4))) x4>>=fun x5=>
 if (bif (e.Op == 4) then true else (e.Op == 5))=true then
  Dh e>>=fun x6=>
  T0 x6 x5>>=fun x7=>
  K6 e depth x7
 else
  K6 e depth x5
 partial_fixpoint
def K6 (e:A0)(depth:Int)(o0:J0):Option J0:=
 if (bif (e.Op == 3) then true else (e.Op == 4))=true then
  E3 e.Name o0>>=fun x8=>
  U8 e depth x8
 else
  U8 e depth o0
 partial_fixpoint
def U8 (e:A0)(depth:Int)(o01:J0):Option J0:=
 if (e.Op == 0)=true then
  Y2 e.NV 0 1048576>>=fun x9=>
  U1 x9 o01>>=fun x10=>
  V8 e depth x10
 else
  V8 e depth o01
 partial_fixpoint
def V8 (e:A0)(depth:Int)(o02:J0):Option J0:=
 I3 e depth o02 0
 partial_fixpoint
def I3 (e:A0)(depth:Int)(o03:J0)(v82:Int):Option J0:=
 if (decide (v82 < ((e.Kids).length:Int)))=true then
  idx e.Kids v82>>=fun x11=>
  E2 x11 (IntKind.i64.wrap (depth+1)) o03>>=fun x12=>
  I3 e depth x12 (IntKind.i64.wrap (v82+1))
 else
  some o03
 partial_fixpoint
end
abbrev Mr (e:A0)(depth:Int)(syntaxReport:J0)(res:J0):Prop:=N0 C 90 [.ref 0 0,.agg (A0.cells e),.d (.int .i64 depth)] [.row (J0.cells syntaxReport) 142] (Ret [.row (J0.cells res) 142] (.tup []))
abbrev Zz (e:A0)(depth:Int)(o0:J0)(res:J0):Prop:=JM C 92 1 Tryz.f90 [1,1,1,1,1,1,1,1] [(0,.ref 0 0),(2,.d (.int .i64 depth)),(4,.ref 1 0),(6,.d (.bool (bif (e.Op == 3) then true else (e.Op == 4))))] [.row (J0.cells o0) 142,.row (A0.cells e) 40] (Ret [.row (J0.cells res) 142] (.tup []))
abbrev A10 (e:A0)(depth:Int)(o01:J0)(res:J0):Prop:=JM C 92 1 Tryz.f90 [1,1,1,1,1,1,1,1,1] [(0,.ref 0 0),(2,.d (.int .i64 depth)),(4,.ref 1 0)] [.row (J0.cells o01) 142,.row (A0.cells e) 40] (Ret [.row (J0.cells res) 142] (.tup []))
abbrev B10 (e:A0)(depth:Int)(o02:J0)(res:J0):Prop:=JM C 92 1 Tryz.f90 [1,1,1,1,1,1,1,1,1,1] [(0,.ref 0 0),(2,.d (.int .i64 depth)),(4,.ref 1 0)] [.row (J0.cells o02) 142,.row (A0.cells e) 40] (Ret [.row (J0.cells res) 142] (.tup []))
abbrev C10 (e:A0)(depth:Int)(o03:J0)(v82:Int)(res:J0):Prop:=LM C 92 1 Tryz.f90 [1,1,1,1,1,1,1,1,1,1,1,4] [(0,.ref 0 0),(2,.d (.int .i64 depth)),(80,.d (.sl (A0.rows e.Kids))),(81,.d (.int .i64 ((e.Kids).length:Int))),(82,.d (.int .i64 v82))] [.row (J0.cells o03) 142] (Ret [.row (J0.cells res) 142] (.tup []))
theorem K11:(∀ e depth syntaxReport res,E2 e depth syntaxReport=some res→Mr e depth syntaxReport res)∧(∀ e depth o0 res,K6 e depth o0=some res→Zz e depth o0 res)∧(∀ e depth o01 res,U8 e depth o01=some res→A10 e depth o01 res)∧(∀ e depth o02 res,V8 e depth o02=some res→B10 e depth o02 res)∧(∀ e depth o03 v82 res,I3 e depth o03 v82=some res→C10 e depth o03 v82 res):=by
 refine E2.mutual_partial_correctness _ _ _ _ _ ?_ ?_ ?_ ?_ ?_
 ·intro g1 ih1 e depth syntaxReport res hh
  obtain ⟨x1,hx1,hh⟩:=bs' hh
  obtain ⟨x2,hx2,hh⟩:=bs' hh
  obtain ⟨x3,hx3,hh⟩:=bs' hh
  obtain ⟨x4,hx4,hh⟩:=bs' hh
  obtain ⟨x5,hx5,hh⟩:=bs' hh
  refine N0.intro hC Tryz.func90 rfl rfl rfl (s' rfl rfl (K0.n hC rfl (n' (p' 7 rfl (K0.s hC rfl (n' (p' 2 rfl (g' [0] (Sl hx1) rfl rfl rfl rfl rfl rfl (n' (S' (AEx.draw hC 8 rfl rfl rfl (O' 3 rfl (Qc' (U1d hx2) rfl rfl ?_)))))))))))))
  refine O' 2 rfl (AQ.qe hC rfl trivial (A0.lenA _) (E' rfl (g' [0] (X0 hx3) rfl rfl rfl rfl rfl rfl (n' (sg' 9 rfl (G' 6 rfl (a1' rfl (a1' rfl (po' rfl (an' (g' [0] (X0 hx4) rfl rfl rfl rfl rfl rfl (n' (sg' 9 rfl ?_)))))))))))))
  refine G' 5 rfl (a1' rfl (a1' rfl (po' rfl (a0' rfl (an' (n' (sg' 7 rfl (G' 6 rfl (po' rfl (an' (g' [0] (X0 hx5) rfl rfl rfl rfl rfl rfl (n' (S' ?_)))))))))))))
  refine sg' 8 rfl (G' 5 rfl (a1' rfl (a1' rfl (po' rfl (an' (n' (ci' rfl hh (fun hh=>?_) (fun hh=>?_))))))))
  ·obtain ⟨x6,hx6,hh⟩:=bs' hh
   obtain ⟨x7,hx7,hh⟩:=bs' hh
   exact P' 2 rfl (c' (X10 hx6) rfl rfl (g' [0] (X0 hx7) rfl rfl rfl rfl rfl rfl (n' (ew' (ih1 _ _ _ _ hh) rfl rfl rfl))))
  exact sk' (ew' (ih1 _ _ _ _ hh) rfl rfl rfl)
 ·intro g2 ih2 e depth o0 res hh
  refine S' (t' rfl (ci' rfl hh (fun hh=>?_) (fun hh=>?_)))
  ·obtain ⟨x8,hx8,hh⟩:=bs' hh
   exact P' 3 rfl (g' [0] (Cc hx8) rfl rfl rfl rfl rfl rfl (n' (ew' (ih2 _ _ _ _ hh) rfl rfl rfl)))
  exact sk' (ew' (ih2 _ _ _ _ hh) rfl rfl rfl)
 ·intro g3 ih3 e depth o01 res hh
  refine S' (t' rfl (ci' rfl hh (fun hh=>?_) (fun hh=>?_)))
  ·obtain ⟨x9,hx9,hh⟩:=bs' hh
   obtain ⟨x10,hx10,hh⟩:=bs' hh
   exact P' 3 rfl (c' (F4 hx9) rfl rfl (g' [0] (W2 hx10) rfl rfl rfl rfl rfl rfl (n' (ew' (ih3 _ _ _ _ hh) rfl rfl rfl))))
  exact sk' (ew' (ih3 _ _ _ _ hh) rfl rfl rfl)
 ·intro g4 ih4 e depth o02 res hh
  exact p' 2 rfl (qe' rfl trivial (A0.lenA _) (e' rfl (bk' (fw' (ih4 _ _ _ _ _ hh) rfl rfl rfl))))
 ·intro g0 g4 ih0 ih4 e depth o03 v82 res hh
  refine Y0.unroll (t' rfl (S' (ci' rfl hh (fun hh=>?_) (fun hh=>?_))))
  ·obtain ⟨x11,hx11,hh⟩:=bs' hh
   obtain ⟨x12,hx12,hh⟩:=bs' hh
   exact sk' (S' (bk' (s' rfl rfl (i' rfl (S0 hx11) (A0.idx hx11) rfl (q' rfl (K0.nf hC rfl (K0.s hC rfl (n' (P' 4 rfl (g' [0] (ih0 _ _ _ _ hx12) rfl rfl rfl rfl rfl rfl (n' (T' rfl (lw' (ih4 _ _ _ _ _ hh) rfl rfl rfl)))))))))))))
  cases hh
  exact ex' (rn' rfl rfl rfl)
theorem Vl {e depth syntaxReport res}(hh:E2 e depth syntaxReport=some res):Mr e depth syntaxReport res:=(K11).1 _ _ _ _ hh
def L4 (syntaxReport:J0):Option Int:=
 if (bif (decide (syntaxReport.nodes > 1024)) then true else (decide (syntaxReport.depth > 12)))=true then
  some 4
 else
  if syntaxReport.badForm=true then
   some 1
  else
   if syntaxReport.badName=true then
    some 7
   else
    if syntaxReport.badNumber=true then
     some 3
    else
     some 0
theorem Wl {syntaxReport res}(hh:L4 syntaxReport=some res):N0 C 89 [.ref 0 0] [.row (J0.cells syntaxReport) 142] (Ret [.row (J0.cells syntaxReport) 142] (.d (.int .i64 res))):=by
 unfold L4 at hh
 refine N0.intro hC Tryz.func89 rfl rfl rfl (t' rfl (S' (bk' (sg' 13 rfl (G' 7 rfl (a1' rfl (a1' rfl (a1' rfl (a1' rfl (po' rfl (a0' rfl (an' (n' (ci' rfl hh (fun hh=>?_) (fun hh=>?_)))))))))))))))
 ·cases hh
  exact t' rfl (re' (rt' rfl rfl rfl))
 refine t' rfl (ci' rfl hh (fun hh=>?_) (fun hh=>?_))
 ·cases hh
  exact t' rfl (re' (rt' rfl rfl rfl))
 refine t' rfl (ci' rfl hh (fun hh=>?_) (fun hh=>?_))
 ·cases hh
  exact t' rfl (re' (rt' rfl rfl rfl))
 refine t' rfl (ci' rfl hh (fun hh=>?_) (fun hh=>?_))
 ·cases hh
  exact t' rfl (re' (rt' rfl rfl rfl))
 cases hh
 exact sk' (t' rfl (re' (rt' rfl rfl rfl)))
def Gg (e:A0):Option Int:=
 E2 e 1 (J0.mk 0 0 false false false)>>=fun x1=>
 L4 x1>>=fun x2=>
 some x2
theorem Rs {e res}(hh:Gg e=some res):N0 C 40 [.agg (A0.cells e)] [] (Ret [] (.d (.int .i64 res))):=by
 unfold Gg at hh
 obtain ⟨x1,hx1,hh⟩:=bs' hh
 obtain ⟨x2,hx2,hh⟩:=bs' hh
 cases hh
 exact N0.intro hC Tryz.func40 rfl rfl rfl (s' rfl rfl (K0.n hC rfl (e' rfl (p' 1 rfl (K0.n hC rfl (e' rfl (p' 2 rfl (g' [1] (Vl hx1) rfl rfl rfl rfl rfl rfl (n' (p' 1 rfl (g' [1] (Wl hx2) rfl rfl rfl rfl rfl rfl (e' rfl (re' (rt' rfl rfl rfl))))))))))))))
def Pd (op:Int)(v20:Bool):Option Int:=
 if v20=true then
  some 5
 else
  if (op == 6)=true then
   if (op == 6)=true then
    some 6
   else
    some 7
  else
   if (op == 7)=true then
    some 6
   else
    some 7
theorem Zn {op v20 res}(hh:Pd op v20=some res):JM C 27 0 Tryz.f224 [1,0,1,4,1,3,1,3,1,3,1,3,1,3,1] [(3,.d (.int .i64 op)),(20,.d (.bool v20))] [] (Ret [] (.d (.int .i64 res))):=by
 unfold Pd at hh
 refine ci' rfl hh (fun hh=>?_) (fun hh=>?_)
 ·cases hh
  exact t' rfl (re' (rt' rfl rfl rfl))
 refine S' (t' rfl (ci' rfl hh (fun hh=>?_) (fun hh=>?_)))
 ·refine sk' (ci' rfl hh (fun hh=>?_) (fun hh=>?_))
  ·cases hh
   exact t' rfl (re' (rt' rfl rfl rfl))
  cases hh
  exact sk' (t' rfl (re' (rt' rfl rfl rfl)))
 refine T' rfl (ci' rfl hh (fun hh=>?_) (fun hh=>?_))
 ·cases hh
  exact t' rfl (re' (rt' rfl rfl rfl))
 cases hh
 exact sk' (t' rfl (re' (rt' rfl rfl rfl)))
def Wh (op:Int)(v17:Bool):Option Int:=
 if v17=true then
  some 4
 else
  if (op == 10)=true then
   Pd op (op == 10)
  else
   if (op == 11)=true then
    Pd op (op == 11)
   else
    Pd op (op == 12)
theorem Ou {op v17 res}(hh:Wh op v17=some res):JM C 27 0 Tryz.f224 [1,0,1,4,1,3,1,3,1,3,1,3,1] [(3,.d (.int .i64 op)),(17,.d (.bool v17))] [] (Ret [] (.d (.int .i64 res))):=by
 unfold Wh at hh
 refine ci' rfl hh (fun hh=>?_) (fun hh=>?_)
 ·cases hh
  exact t' rfl (re' (rt' rfl rfl rfl))
 refine S' (t' rfl (ci' rfl hh (fun hh=>?_) (fun hh=>?_)))
 ·exact sk' (ew' (Zn hh) rfl rfl rfl)
 refine t' rfl (ci' rfl hh (fun hh=>?_) (fun hh=>?_))
 ·exact sk' (ew' (Zn hh) rfl rfl rfl)
 exact T' rfl (ew' (Zn hh) rfl rfl rfl)
def S6 (op:Int)(v10:Bool):Option Int:=
 if v10=true then
  some 3
 else
  if (op == 8)=true then
   Wh op (op == 8)
  else
   Wh op (op == 9)
theorem Dc {op v10 res}(hh:S6 op v10=some res):JM C 27 0 Tryz.f224 [1,0,1,4,1,3,1,3,1,3,1] [(3,.d (.int .i64 op)),(10,.d (.bool v10))] [] (Ret [] (.d (.int .i64 res))):=by
 unfold S6 at hh
 refine ci' rfl hh (fun hh=>?_) (fun hh=>?_)
 ·cases hh
  exact t' rfl (re' (rt' rfl rfl rfl))
 refine S' (t' rfl (ci' rfl hh (fun hh=>?_) (fun hh=>?_)))
 ·exact sk' (ew' (Ou hh) rfl rfl rfl)
 exact T' rfl (ew' (Ou hh) rfl rfl rfl)
def Xl (op:Int):Option Int:=
 if (op == 23)=true then
  some 0
 else
  if (op == 20)=true then
   some 1
  else
   if (op == 19)=true then
    some 2
   else
    if (op == 13)=true then
     S6 op (op == 13)
    else
     if (op == 14)=true then
      S6 op (op == 14)
     else
      if (op == 15)=true then
       S6 op (op == 15)
      else
       if (op == 16)=true then
        S6 op (op == 16)
       else
        if (op == 17)=true then
         S6 op (op == 17)
        else
         S6 op (op == 18)
theorem Y10 {op res}(hh:Xl op=some res):N0 C 224 [.d (.int .i64 op)] [] (Ret [] (.d (.int .i64 res))):=by
 unfold Xl at hh
 refine N0.intro hC Tryz.func224 rfl rfl rfl (t' rfl (S' (t' rfl (bk' (t' rfl (ci' rfl hh (fun hh=>?_) (fun hh=>?_)))))))
 ·cases hh
  exact t' rfl (re' (rt' rfl rfl rfl))
 refine t' rfl (ci' rfl hh (fun hh=>?_) (fun hh=>?_))
 ·cases hh
  exact t' rfl (re' (rt' rfl rfl rfl))
 refine t' rfl (ci' rfl hh (fun hh=>?_) (fun hh=>?_))
 ·cases hh
  exact t' rfl (re' (rt' rfl rfl rfl))
 refine S' (t' rfl (ci' rfl hh (fun hh=>?_) (fun hh=>?_)))
 ·exact sk' (ew' (Dc hh) rfl rfl rfl)
 refine t' rfl (ci' rfl hh (fun hh=>?_) (fun hh=>?_))
 ·exact sk' (ew' (Dc hh) rfl rfl rfl)
 refine t' rfl (ci' rfl hh (fun hh=>?_) (fun hh=>?_))
 ·exact sk' (ew' (Dc hh) rfl rfl rfl)
 refine t' rfl (ci' rfl hh (fun hh=>?_) (fun hh=>?_))
 ·exact sk' (ew' (Dc hh) rfl rfl rfl)
 refine t' rfl (ci' rfl hh (fun hh=>?_) (fun hh=>?_))
 ·exact sk' (ew' (Dc hh) rfl rfl rfl)
 exact T' rfl (ew' (Dc hh) rfl rfl rfl)
mutual
def C1 (e:A0)(b:Str):Option Str:=
 if (e.Op == 0)=true then
  Rl e.NV>>=fun x1=>
  I0 x1 b>>=fun x2=>
  some x2.2
 else
  if (e.Op == 1)=true then
   I0 [116,114,117,101] b>>=fun x3=>
   some x3.2
  else
   if (e.Op == 2)=true then
    I0 [102,97,108,115,101] b>>=fun x4=>
    some x4.2
   else
    if (e.Op == 3)=true then
     I0 e.Name b>>=fun x5=>
     some x5.2
    else
     if (e.Op == 4)=true then
      idx e.Kids 0>>=fun x6=>
      C1 x6 b>>=fun x14=>
      if (decide (1+e.Name.length≤maxLen))=true then
       I0 ([46]++e.Name) x14>>=fun x15=>
       some x15.2
      else none
     else
      if (e.Op == 5)=true then
       idx e.Kids 0>>=fun x7=>
       C1 x7 b>>=fun x16=>
       I0 [91] x16>>=fun x17=>
       idx e.Kids 1>>=fun x18=>
       C1 x18 x17.2>>=fun x19=>
       I0 [93] x19>>=fun x20=>
       some x20.2
      else
       if (e.Op == 6)=true then
        Hb e b (e.Op == 6)
       else
        Hb e b (e.Op == 7)
 partial_fixpoint
def Hb (e:A0)(b:Str)(v77:Bool):Option Str:=
 if v77=true then
  if (e.Op == 7)=true then
   Kb e b [33]
  else
   Kb e b [45]
 else
  if (e.Op == 21)=true then
   Ib e b (e.Op == 21)
  else
   Ib e b (e.Op == 22)
 partial_fixpoint
def Ib (e:A0)(b:Str)(v94:Bool):Option Str:=
 if v94=true then
  if (e.Op == 22)=true then
   Jb e b [109,97,120,40]
  else
   Jb e b [109,105,110,40]
 else
  if (e.Op == 23)=true then
   idx e.Kids 0>>=fun x13=>
   B9 x13 1 b>>=fun x22=>
   I0 [32,63,32] x22>>=fun x23=>
   idx e.Kids 1>>=fun x24=>
   C1 x24 x23.2>>=fun x25=>
   I0 [32,58,32] x25>>=fun x26=>
   idx e.Kids 2>>=fun x27=>
   C1 x27 x26.2>>=fun x28=>
   some x28
  else
   Xh e b>>=fun x29=>
   some x29
 partial_fixpoint
def Xh (e:A0)(b:Str):Option Str:=
 Xl e.Op>>=fun x1=>
 if (x1 == 3)=true then
  A9 e b x1 4
 else
  A9 e b x1 x1
 partial_fixpoint
def A9 (e:A0)(b:Str)(x1:Int)(left:Int):Option Str:=
 idx e.Kids 0>>=fun x2=>
 B9 x2 left b>>=fun x3=>
 idx Nu (IntKind.i64.wrap (e.Op - 8))>>=fun x4=>
 if (decide (1+x4.length≤maxLen))=true then
  if (decide (([32]++x4).length+1≤maxLen))=true then
   I0 (([32]++x4)++[32]) x3>>=fun x5=>
   idx e.Kids 1>>=fun x6=>
   B9 x6 (IntKind.i64.wrap (x1+1)) x5.2>>=fun x7=>
   some x7
  else none
 else none
 partial_fixpoint
def B9 (e:A0)(required:Int)(b:Str):Option Str:=
 Xl e.Op>>=fun x1=>
 if (decide (x1≥required))=true then
  C1 e b>>=fun x3=>
  some x3
 else
  I0 [40] b>>=fun x2=>
  C1 e x2.2>>=fun x4=>
  I0 [41] x4>>=fun x5=>
  some x5.2
 partial_fixpoint
def Jb (e:A0)(b:Str)(J5:Str):Option Str:=
 I0 J5 b>>=fun x10=>
 K8 e.Kids x10.2>>=fun x11=>
 I0 [41] x11>>=fun x12=>
 some x12.2
 partial_fixpoint
def K8 (l:List A0)(b:Str):Option Str:=
 Y7 l b 0
 partial_fixpoint
def Y7 (l:List A0)(b1:Str)(v8:Int):Option Str:=
 if (decide (v8 < ((l).length:Int)))=true then
  idx l v8>>=fun x1=>
  if (decide (v8 > 0))=true then
   I0 [44,32] b1>>=fun x3=>
   C1 x1 x3.2>>=fun x2=>
   Y7 l x2 (IntKind.i64.wrap (v8+1))
  else
   C1 x1 b1>>=fun x2=>
   Y7 l x2 (IntKind.i64.wrap (v8+1))
 else
  some b1
 partial_fixpoint
def Kb (e:A0)(b:Str)(sign:Str):Option Str:=
 I0 sign b>>=fun x8=>
 idx e.Kids 0>>=fun x9=>
 B9 x9 6 x8.2>>=fun x21=>
 some x21
 partial_fixpoint
end
abbrev Xq (e:A0)(b:Str)(res:Str):Prop:=N0 C 83 [.ref 0 0,.agg (A0.cells e)] [.bld 1 129,.buf 5 b] (Ret [.bld 1 129,.buf 5 res] (.tup []))
abbrev Jy (e:A0)(b:Str)(v77:Bool)(res:Str):Prop:=JM C 141 2 Tryz.f83 [1,1,4,1,3,1,3,1,3,1,3,1,3,1,3,1] [(0,.ref 0 0),(3,.ref 2 0),(7,.d (.int .i64 e.Op)),(77,.d (.bool v77))] [.bld 1 129,.buf 5 b,.row (A0.cells e) 40] (Ret [.bld 1 129,.buf 5 res] (.tup []))
abbrev Ky (e:A0)(b:Str)(v94:Bool)(res:Str):Prop:=JM C 141 2 Tryz.f83 [1,1,4,1,3,1,3,1,3,1,3,1,3,1,3,1,3,1] [(0,.ref 0 0),(3,.ref 2 0),(7,.d (.int .i64 e.Op)),(94,.d (.bool v94))] [.bld 1 129,.buf 5 b,.row (A0.cells e) 40] (Ret [.bld 1 129,.buf 5 res] (.tup []))
abbrev D10 (e:A0)(b:Str)(res:Str):Prop:=N0 C 159 [.ref 0 0,.agg (A0.cells e)] [.bld 1 129,.buf 5 b] (Ret [.bld 1 129,.buf 5 res] (.tup []))
abbrev Rv (e:A0)(b:Str)(x1:Int)(left:Int)(res:Str):Prop:=JM C 38 2 Tryz.f159 [1,1,1,1] [(0,.ref 0 0),(3,.ref 2 0),(4,.d (.int .i64 x1)),(5,.d (.int .i64 left))] [.bld 1 129,.buf 5 b,.row (A0.cells e) 40] (Ret [.bld 1 129,.buf 5 res] (.tup []))
abbrev O14 (e:A0)(required:Int)(b:Str)(res:Str):Prop:=N0 C 157 [.ref 0 0,.agg (A0.cells e),.d (.int .i64 required)] [.bld 1 129,.buf 5 b] (Ret [.bld 1 129,.buf 5 res] (.tup []))
abbrev Ly (e:A0)(b:Str)(J5:Str)(res:Str):Prop:=JM C 141 2 Tryz.f83 [1,1,4,1,3,1,3,1,3,1,3,1,3,1,3,1,3,1,2,1,1] [(0,.ref 0 0),(3,.ref 2 0),(5,.d (.str J5))] [.bld 1 129,.buf 5 b,.row (A0.cells e) 40] (Ret [.bld 1 129,.buf 5 res] (.tup []))
abbrev Yq (l:List A0)(b:Str)(res:Str):Prop:=N0 C 158 [.ref 0 0,.d (.sl (A0.rows l))] [.bld 1 129,.buf 5 b] (Ret [.bld 1 129,.buf 5 res] (.tup []))
abbrev My (l:List A0)(b1:Str)(v8:Int)(res:Str):Prop:=LM C 23 2 Tryz.f158 [1,4] [(0,.ref 0 0),(6,.d (.sl (A0.rows l))),(7,.d (.int .i64 ((l).length:Int))),(8,.d (.int .i64 v8))] [.bld 1 129,.buf 5 b1] (Ret [.bld 1 129,.buf 5 res] (.tup []))
abbrev Ny (e:A0)(b:Str)(sign:Str)(res:Str):Prop:=JM C 141 2 Tryz.f83 [1,1,4,1,3,1,3,1,3,1,3,1,3,1,3,1,2,1,1] [(0,.ref 0 0),(3,.ref 2 0),(4,.d (.str sign))] [.bld 1 129,.buf 5 b,.row (A0.cells e) 40] (Ret [.bld 1 129,.buf 5 res] (.tup []))
theorem Xo:(∀ e b res,C1 e b=some res→Xq e b res)∧(∀ e b v77 res,Hb e b v77=some res→Jy e b v77 res)∧(∀ e b v94 res,Ib e b v94=some res→Ky e b v94 res)∧(∀ e b res,Xh e b=some res→D10 e b res)∧(∀ e b x1 left res,A9 e b x1 left=some res→Rv e b x1 left res)∧(∀ e required b res,B9 e required b=some res→O14 e required b res)∧(∀ e b J5 res,Jb e b J5=some res→Ly e b J5 res)∧(∀ l b res,K8 l b=some res→Yq l b res)∧(∀ l b1 v8 res,Y7 l b1 v8=some res→My l b1 v8 res)∧(∀ e b sign res,Kb e b sign=some res→Ny e b sign res):=by
 refine C1.mutual_partial_correctness _ _ _ _ _ _ _ _ _ _ ?_ ?_ ?_ ?_ ?_ ?_ ?_ ?_ ?_ ?_
 ·intro g0 g1 ih0 ih1 e b res hh
  refine N0.intro hC Tryz.func83 rfl rfl rfl (s' rfl rfl (K0.n hC rfl (n' (t' rfl (bk' (t' rfl (ci' rfl hh (fun hh=>?_) (fun hh=>?_))))))))
  ·obtain ⟨x1,hx1,hh⟩:=bs' hh
   obtain ⟨x2,hx2,hh⟩:=bs' hh
   cases hh
   exact AEx.draw hC 6 rfl rfl rfl (O' 5 rfl (Qc' (Cj hx1) rfl rfl (Qn' (g' [0,1] (L0 hx2) rfl rfl rfl rfl rfl rfl (n' (rn' rfl rfl rfl))))))
  refine t' rfl (ci' rfl hh (fun hh=>?_) (fun hh=>?_))
  ·obtain ⟨x3,hx3,hh⟩:=bs' hh
   cases hh
   exact P' 3 rfl (g' [0,1] (L0 hx3) rfl rfl rfl rfl rfl rfl (n' (rn' rfl rfl rfl)))
  refine t' rfl (ci' rfl hh (fun hh=>?_) (fun hh=>?_))
  ·obtain ⟨x4,hx4,hh⟩:=bs' hh
   cases hh
   exact P' 3 rfl (g' [0,1] (L0 hx4) rfl rfl rfl rfl rfl rfl (n' (rn' rfl rfl rfl)))
  refine t' rfl (ci' rfl hh (fun hh=>?_) (fun hh=>?_))
  ·obtain ⟨x5,hx5,hh⟩:=bs' hh
   cases hh
   exact AEx.draw hC 5 rfl rfl rfl (E' rfl (g' [0,1] (L0 hx5) rfl rfl rfl rfl rfl rfl (n' (rn' rfl rfl rfl))))
  refine t' rfl (ci' rfl hh (fun hh=>?_) (fun hh=>?_))
  ·obtain ⟨x6,hx6,hh⟩:=bs' hh
   obtain ⟨x14,hx14,hh⟩:=bs' hh
   obtain ⟨c4,hh⟩:=U0 hh
   obtain ⟨x15,hx15,hh⟩:=bs' hh
   cases hh
   exact p' 3 rfl (i' rfl (S0 hx6) (A0.idx hx6) rfl (q' rfl (g' [0,1] (ih0 _ _ _ hx14) rfl rfl rfl rfl rfl rfl (n' (AEx.draw hC 6 rfl rfl rfl (O' 5 rfl (AQ.q hC rfl c4 (Qn' (g' [0,1] (L0 hx15) rfl rfl rfl rfl rfl rfl (n' (rn' rfl rfl rfl)))))))))))
  refine t' rfl (ci' rfl hh (fun hh=>?_) (fun hh=>?_))
  ·obtain ⟨x7,hx7,hh⟩:=bs' hh
   obtain ⟨x16,hx16,hh⟩:=bs' hh
   obtain ⟨x17,hx17,hh⟩:=bs' hh
   obtain ⟨x18,hx18,hh⟩:=bs' hh
   obtain ⟨x19,hx19,hh⟩:=bs' hh
   obtain ⟨x20,hx20,hh⟩:=bs' hh
   cases hh
   refine p' 3 rfl (i' rfl (S0 hx7) (A0.idx hx7) rfl (q' rfl (g' [0,1] (ih0 _ _ _ hx16) rfl rfl rfl rfl rfl rfl (n' (p' 3 rfl (g' [0,1] (L0 hx17) rfl rfl rfl rfl rfl rfl (n' (p' 3 rfl (i' rfl (S0 hx18) (A0.idx hx18) rfl (q' rfl (g' [0,1] (ih0 _ _ _ hx19) rfl rfl rfl rfl rfl rfl (n' (P' 3 rfl ?_)))))))))))))
   exact g' [0,1] (L0 hx20) rfl rfl rfl rfl rfl rfl (n' (rn' rfl rfl rfl))
  refine S' (t' rfl (ci' rfl hh (fun hh=>?_) (fun hh=>?_)))
  ·exact sk' (ew' (ih1 _ _ _ _ hh) rfl rfl rfl)
  exact T' rfl (ew' (ih1 _ _ _ _ hh) rfl rfl rfl)
 ·intro g2 g9 ih2 ih9 e b v77 res hh
  refine ci' rfl hh (fun hh=>?_) (fun hh=>?_)
  ·refine t' rfl (S' (t' rfl (ci' rfl hh (fun hh=>?_) (fun hh=>?_))))
   ·exact T' rfl (ew' (ih9 _ _ _ _ hh) rfl rfl rfl)
   exact sk' (ew' (ih9 _ _ _ _ hh) rfl rfl rfl)
  refine S' (t' rfl (ci' rfl hh (fun hh=>?_) (fun hh=>?_)))
  ·exact sk' (ew' (ih2 _ _ _ _ hh) rfl rfl rfl)
  exact T' rfl (ew' (ih2 _ _ _ _ hh) rfl rfl rfl)
 ·intro g0 g3 g5 g6 ih0 ih3 ih5 ih6 e b v94 res hh
  refine ci' rfl hh (fun hh=>?_) (fun hh=>?_)
  ·refine t' rfl (S' (t' rfl (ci' rfl hh (fun hh=>?_) (fun hh=>?_))))
   ·exact T' rfl (ew' (ih6 _ _ _ _ hh) rfl rfl rfl)
   exact sk' (ew' (ih6 _ _ _ _ hh) rfl rfl rfl)
  refine t' rfl (ci' rfl hh (fun hh=>?_) (fun hh=>?_))
  ·obtain ⟨x13,hx13,hh⟩:=bs' hh
   obtain ⟨x22,hx22,hh⟩:=bs' hh
   obtain ⟨x23,hx23,hh⟩:=bs' hh
   obtain ⟨x24,hx24,hh⟩:=bs' hh
   obtain ⟨x25,hx25,hh⟩:=bs' hh
   obtain ⟨x26,hx26,hh⟩:=bs' hh
   obtain ⟨x27,hx27,hh⟩:=bs' hh
   obtain ⟨x28,hx28,hh⟩:=bs' hh
   cases hh
   refine p' 3 rfl (i' rfl (S0 hx13) (A0.idx hx13) rfl (q' rfl (g' [0,1] (ih5 _ _ _ _ hx22) rfl rfl rfl rfl rfl rfl (n' (p' 3 rfl (g' [0,1] (L0 hx23) rfl rfl rfl rfl rfl rfl (n' (p' 3 rfl (i' rfl (S0 hx24) (A0.idx hx24) rfl (q' rfl (g' [0,1] (ih0 _ _ _ hx25) rfl rfl rfl rfl rfl rfl (n' (p' 3 rfl ?_)))))))))))))
   exact g' [0,1] (L0 hx26) rfl rfl rfl rfl rfl rfl (n' (P' 3 rfl (i' rfl (S0 hx27) (A0.idx hx27) rfl (q' rfl (g' [0,1] (ih0 _ _ _ hx28) rfl rfl rfl rfl rfl rfl (n' (rn' rfl rfl rfl)))))))
  obtain ⟨x29,hx29,hh⟩:=bs' hh
  cases hh
  exact P' 2 rfl (g' [0,1] (ih3 _ _ _ hx29) rfl rfl rfl rfl rfl rfl (n' (rn' rfl rfl rfl)))
 ·intro g4 ih4 e b res hh
  obtain ⟨x1,hx1,hh⟩:=bs' hh
  refine N0.intro hC Tryz.func159 rfl rfl rfl (s' rfl rfl (K0.n hC rfl (n' (p' 2 rfl (c' (Y10 hx1) rfl rfl (e' rfl (t' rfl (S' (t' rfl (ci' rfl hh (fun hh=>?_) (fun hh=>?_)))))))))))
  ·exact T' rfl (ew' (ih4 _ _ _ _ _ hh) rfl rfl rfl)
  exact sk' (ew' (ih4 _ _ _ _ _ hh) rfl rfl rfl)
 ·intro g5 ih5 e b x1 left res hh
  obtain ⟨x2,hx2,hh⟩:=bs' hh
  obtain ⟨x3,hx3,hh⟩:=bs' hh
  obtain ⟨x4,hx4,hh⟩:=bs' hh
  obtain ⟨c7,hh⟩:=U0 hh
  obtain ⟨c8,hh⟩:=U0 hh
  obtain ⟨x5,hx5,hh⟩:=bs' hh
  obtain ⟨x6,hx6,hh⟩:=bs' hh
  obtain ⟨x7,hx7,hh⟩:=bs' hh
  cases hh
  refine p' 3 rfl (i' rfl (S0 hx2) (A0.idx hx2) rfl (o' 2 rfl (g' [0,1] (ih5 _ _ _ _ hx3) rfl rfl rfl rfl rfl rfl (n' (S' (AEx.draw hC 10 rfl rfl rfl (O' 6 rfl (AQ.ig hC rfl (S0 hx4) (M1l (f:=D.str) hx4).1 (M1l (f:=D.str) hx4).2 (Q' rfl (AQ.q hC rfl c7 (AQ.q hC rfl c8 (Qn' (g' [0,1] (L0 hx5) rfl rfl rfl rfl rfl rfl ?_)))))))))))))
  exact n' (P' 3 rfl (i' rfl (S0 hx6) (A0.idx hx6) rfl (o' 3 rfl (g' [0,1] (ih5 _ _ _ _ hx7) rfl rfl rfl rfl rfl rfl (n' (rn' rfl rfl rfl))))))
 ·intro g0 ih0 e required b res hh
  obtain ⟨x1,hx1,hh⟩:=bs' hh
  refine N0.intro hC Tryz.func157 rfl rfl rfl (s' rfl rfl (K0.n hC rfl (n' (S' (p' 2 rfl (c' (Y10 hx1) rfl rfl (e' rfl (ci' rfl hh (fun hh=>?_) (fun hh=>?_)))))))))
  ·obtain ⟨x3,hx3,hh⟩:=bs' hh
   cases hh
   exact p' 2 rfl (g' [0,1] (ih0 _ _ _ hx3) rfl rfl rfl rfl rfl rfl (n' (re' (rt' rfl rfl rfl))))
  obtain ⟨x2,hx2,hh⟩:=bs' hh
  obtain ⟨x4,hx4,hh⟩:=bs' hh
  obtain ⟨x5,hx5,hh⟩:=bs' hh
  cases hh
  exact sk' (p' 3 rfl (g' [0,1] (L0 hx2) rfl rfl rfl rfl rfl rfl (n' (p' 2 rfl (g' [0,1] (ih0 _ _ _ hx4) rfl rfl rfl rfl rfl rfl (n' (P' 3 rfl (g' [0,1] (L0 hx5) rfl rfl rfl rfl rfl rfl (n' (rn' rfl rfl rfl))))))))))
 ·intro g7 ih7 e b J5 res hh
  obtain ⟨x10,hx10,hh⟩:=bs' hh
  obtain ⟨x11,hx11,hh⟩:=bs' hh
  obtain ⟨x12,hx12,hh⟩:=bs' hh
  cases hh
  exact p' 4 rfl (g' [0,1] (L0 hx10) rfl rfl rfl rfl rfl rfl (n' (p' 3 rfl (g' [0,1] (ih7 _ _ _ hx11) rfl rfl rfl rfl rfl rfl (n' (P' 3 rfl (g' [0,1] (L0 hx12) rfl rfl rfl rfl rfl rfl (n' (rn' rfl rfl rfl)))))))))
 ·intro g8 ih8 l b res hh
  exact N0.intro hC Tryz.func158 rfl rfl rfl (p' 1 rfl (qe' rfl trivial (A0.lenA _) (e' rfl (bk' (fw' (ih8 _ _ _ _ hh) rfl rfl rfl)))))
 ·intro g0 g8 ih0 ih8 l b1 v8 res hh
  refine Y0.unroll (t' rfl (S' (ci' rfl hh (fun hh=>?_) (fun hh=>?_))))
  ·obtain ⟨x1,hx1,hh⟩:=bs' hh
   refine sk' (S' (bk' (p' 1 rfl (i' rfl (S0 hx1) (A0.idx hx1) rfl (q' rfl (K0.nf hC rfl (q' rfl (K0.s hC rfl (n' (S' (t' rfl (ci' rfl hh (fun hh=>?_) (fun hh=>?_)))))))))))))
   ·obtain ⟨x3,hx3,hh⟩:=bs' hh
    obtain ⟨x2,hx2,hh⟩:=bs' hh
    exact P' 3 rfl (g' [0,1] (L0 hx3) rfl rfl rfl rfl rfl rfl (n' (P' 2 rfl (g' [0,1] (ih0 _ _ _ hx2) rfl rfl rfl rfl rfl rfl (n' (T' rfl (lw' (ih8 _ _ _ _ hh) rfl rfl rfl)))))))
   obtain ⟨x2,hx2,hh⟩:=bs' hh
   exact sk' (P' 2 rfl (g' [0,1] (ih0 _ _ _ hx2) rfl rfl rfl rfl rfl rfl (n' (T' rfl (lw' (ih8 _ _ _ _ hh) rfl rfl rfl)))))
  cases hh
  exact ex' (rn' rfl rfl rfl)
 ·intro g5 ih5 e b sign res hh
  obtain ⟨x8,hx8,hh⟩:=bs' hh
  obtain ⟨x9,hx9,hh⟩:=bs' hh
  obtain ⟨x21,hx21,hh⟩:=bs' hh
  cases hh
  exact p' 4 rfl (g' [0,1] (L0 hx8) rfl rfl rfl rfl rfl rfl (n' (P' 3 rfl (i' rfl (S0 hx9) (A0.idx hx9) rfl (q' rfl (g' [0,1] (ih5 _ _ _ _ hx21) rfl rfl rfl rfl rfl rfl (n' (rn' rfl rfl rfl))))))))
theorem Z2 {e b res}(hh:C1 e b=some res):Xq e b res:=(Xo).1 _ _ _ hh
theorem L11 {l b res}(hh:K8 l b=some res):Yq l b res:=(Xo).2.2.2.2.2.2.2.1 _ _ _ hh
def Xa (b:Str):Option (Str×Int):=
 Tm b>>=fun x1=>
 if (decide (x1 > 8192))=true then
  some ([],5)
 else
  Vj b>>=fun x2=>
  some (x2,0)
theorem Np {b res}(hh:Xa b=some res):N0 C 84 [.ref 0 0] [.bld 1 129,.buf 5 b] (Ret [.dead,.dead] (.tup [.d (.str res.1),.d (.int .i64 res.2)])):=by
 unfold Xa at hh
 obtain ⟨x1,hx1,hh⟩:=bs' hh
 refine N0.intro hC Tryz.func84 rfl rfl rfl (t' rfl (S' (p' 3 rfl (g' [0,1] (Yz hx1) rfl rfl rfl rfl rfl rfl (e' rfl (ci' rfl hh (fun hh=>?_) (fun hh=>?_)))))))
 ·refine t' rfl (re' ?_)
  obtain rfl:=oi' hh
  exact ⟨_,_,[.dead,.dead],rfl,.rfl,⟨trivial,trivial,trivial⟩,rfl,rfl,rfl,rfl⟩
 obtain ⟨x2,hx2,hh⟩:=bs' hh
 refine sk' (p' 3 rfl (g' [0,1] (Qv hx2) rfl rfl rfl rfl rfl rfl (e' rfl (re' ?_))))
 obtain rfl:=oi' hh
 exact ⟨_,_,[.dead,.dead],rfl,.rfl,⟨trivial,trivial,trivial⟩,rfl,rfl,rfl,rfl⟩
def Yb (e:A0):Option (Str×Int):=
 Gg e>>=fun x1=>
 if (x1 != 0)=true then
  some ([],x1)
 else
  C1 e []>>=fun x2=>
  Xa x2>>=fun x3=>
  some (x3.1,x3.2)
theorem Ln {e res}(hh:Yb e=some res):N0 C 34 [.agg (A0.cells e)] [] (Ret [] (.tup [.d (.str res.1),.d (.int .i64 res.2)])):=by
 unfold Yb at hh
 obtain ⟨x1,hx1,hh⟩:=bs' hh
 refine N0.intro hC Tryz.func34 rfl rfl rfl (s' rfl rfl (K0.n hC rfl (e' rfl (S' (p' 1 rfl (c' (Rs hx1) rfl rfl (e' rfl (t' rfl (ci' rfl hh (fun hh=>?_) (fun hh=>?_))))))))))
 ·cases hh
  exact t' rfl (re' (rt' rfl rfl rfl))
 obtain ⟨x2,hx2,hh⟩:=bs' hh
 obtain ⟨x3,hx3,hh⟩:=bs' hh
 cases hh
 exact sk' (s' rfl rfl (K0.newB 5 rfl rfl rfl P1s rfl rfl (e' rfl (p' 2 rfl (g' [1,2] (Z2 hx2) rfl rfl rfl rfl rfl rfl (n' (p' 1 rfl (g' [1,2] (Np hx3) rfl rfl rfl rfl rfl rfl (e' rfl (re' (rt' rfl rfl rfl)))))))))))
def Yh (k:Int):Option (Bool×Bool):=
 some ((bif (decide (k≥0)) then (decide (k≤6)) else false),(bif (k == 5) then true else (k == 6)))
theorem R18 {k res}(hh:Yh k=some res):N0 C 227 [.d (.int .i64 k)] [] (Ret [] (.tup [.d (.bool res.1),.d (.bool res.2)])):=by
 unfold Yh at hh
 cases hh
 exact N0.intro hC Tryz.func227 rfl rfl rfl (t' rfl (sg' 14 rfl (G' 4 rfl (a1' rfl (pa' rfl (G' 4 rfl (a1' rfl (po' rfl (G' 2 rfl (an' (n' (re' (rt' rfl rfl rfl)))))))))))))
def W1 (s1:List Str)(s2:List Str)(v13:Int):Option Bool:=
 if (decide (v13 < ((s1).length:Int)))=true then
  idx s1 v13>>=fun x1=>
  idx s2 v13>>=fun x2=>
  if (!(x1 == x2))=true then
   some false
  else
   W1 s1 s2 (IntKind.i64.wrap (v13+1))
 else
  some true
 partial_fixpoint
abbrev Tj (s1:List Str)(s2:List Str)(v13:Int)(res:Bool):Prop:=LM C 26 0 Tryz.f263 [1,1,0,1,4] [(0,.d (.sl (estr.rows s1))),(1,.d (.sl (estr.rows s2))),(12,.d (.int .i64 ((s1).length:Int))),(13,.d (.int .i64 v13))] [] (Ret [] (.d (.bool res)))
theorem Pp (s1:List Str)(s2:List Str):(∀ v13 res,W1 s1 s2 v13=some res→Tj s1 s2 v13 res):=by
 refine W1.partial_correctness s1 s2 _ ?_
 ·intro g0 ih0 v13 res hh
  refine Y0.unroll (t' rfl (S' (ci' rfl hh (fun hh=>?_) (fun hh=>?_))))
  ·obtain ⟨x1,hx1,hh⟩:=bs' hh
   obtain ⟨x2,hx2,hh⟩:=bs' hh
   refine sk' (S' (bk' (t' rfl (S' (AEx.draw hC 9 rfl rfl rfl (O' 2 rfl (AQ.i hC rfl (S0 hx1) (estr.idx hx1) rfl (O' 3 rfl (AQ.i hC rfl (S0 hx2) (estr.idx hx2) rfl (E' rfl (n' (ci' rfl hh (fun hh=>?_) (fun hh=>?_)))))))))))))
   ·cases hh
    exact t' rfl (re' (rt' rfl rfl rfl))
   exact sk' (T' rfl (lw' (ih0 _ _ hh) rfl rfl rfl))
  cases hh
  exact ex' (t' rfl (re' (rt' rfl rfl rfl)))
theorem Lq {s1 s2 v13 res}(hh:W1 s1 s2 v13=some res):Tj s1 s2 v13 res:=(Pp s1 s2) _ _ hh
def G4 (s1:List Str)(s2:List Str):Option Bool:=
 if (((s1).length:Int) != ((s2).length:Int))=true then
  some false
 else
  W1 s1 s2 0
theorem Ks {s1 s2 res}(hh:G4 s1 s2=some res):N0 C 263 [.d (.sl (estr.rows s1)),.d (.sl (estr.rows s2))] [] (Ret [] (.d (.bool res))):=by
 unfold G4 at hh
 refine N0.intro hC Tryz.func263 rfl rfl rfl (t' rfl (S' (p' 1 rfl (qe' rfl trivial (estr.lenA _) (q' rfl (qe' rfl trivial (estr.lenA _) (e' rfl (ci' rfl hh (fun hh=>?_) (fun hh=>?_)))))))))
 ·cases hh
  exact t' rfl (re' (rt' rfl rfl rfl))
 exact sk' (S' (p' 1 rfl (qe' rfl trivial (estr.lenA _) (e' rfl (bk' (fw' (Lq hh) rfl rfl rfl))))))
mutual
def Y4 (a:F0)(b:F0):Option Bool:=
 (if (bif (bif (bif (bif (a.Kind == b.Kind) then (a.Low == b.Low) else false) then (a.High == b.High) else false) then (a.Size == b.Size) else false) then (a.Name == b.Name) else false)=true then G4 a.Names b.Names else some default)>>=fun x1=>
 (if (bif (bif (bif (bif (bif (a.Kind == b.Kind) then (a.Low == b.Low) else false) then (a.High == b.High) else false) then (a.Size == b.Size) else false) then (a.Name == b.Name) else false) then x1 else false)=true then R1 a.Of b.Of else some default)>>=fun x2=>
 some (bif (bif (bif (bif (bif (bif (a.Kind == b.Kind) then (a.Low == b.Low) else false) then (a.High == b.High) else false) then (a.Size == b.Size) else false) then (a.Name == b.Name) else false) then x1 else false) then x2 else false)
 partial_fixpoint
def R1 (s1:List F0)(s2:List F0):Option Bool:=
 if (((s1).length:Int) != ((s2).length:Int))=true then
  some false
 else
  A1 s1 s2 0
 partial_fixpoint
def A1 (s1:List F0)(s2:List F0)(v17:Int):Option Bool:=
 if (decide (v17 < ((s1).length:Int)))=true then
  idx s1 v17>>=fun x1=>
  idx s2 v17>>=fun x2=>
  Y4 x1 x2>>=fun x3=>
  if (!x3)=true then
   some false
  else
   A1 s1 s2 (IntKind.i64.wrap (v17+1))
 else
  some true
 partial_fixpoint
end
abbrev Pu (a:F0)(b:F0)(res:Bool):Prop:=N0 C 228 [.agg (F0.cells a),.agg (F0.cells b)] [] (Ret [] (.d (.bool res)))
abbrev Eh (s1:List F0)(s2:List F0)(res:Bool):Prop:=N0 C 264 [.d (.sl (F0.rows s1)),.d (.sl (F0.rows s2)),.clo 228 []] [] (Ret [] (.d (.bool res)))
abbrev Sf (s1:List F0)(s2:List F0)(v17:Int)(res:Bool):Prop:=LM C 32 0 Tryz.f264 [1,1,0,1,4] [(1,.d (.sl (F0.rows s2))),(2,.clo 228 []),(15,.d (.sl (F0.rows s1))),(16,.d (.int .i64 ((s1).length:Int))),(17,.d (.int .i64 v17))] [] (Ret [] (.d (.bool res)))
theorem P14:(∀ a b res,Y4 a b=some res→Pu a b res)∧(∀ s1 s2 res,R1 s1 s2=some res→Eh s1 s2 res)∧(∀ s1 s2 v17 res,A1 s1 s2 v17=some res→Sf s1 s2 v17 res):=by
 refine Y4.mutual_partial_correctness _ _ _ ?_ ?_ ?_
 ·intro g1 ih1 a b res hh
  obtain ⟨x1,hx1,hh⟩:=bs' hh
  obtain ⟨x2,hx2,hh⟩:=bs' hh
  cases hh
  refine N0.intro hC Tryz.func228 rfl rfl rfl (s' rfl rfl (K0.n hC rfl (K0.n hC rfl (e' rfl (sg' 48 rfl (G' 7 rfl (a1' rfl (a0' rfl (a1' rfl (a2' rfl (pa' rfl (G' 2 rfl (a1' rfl ?_)))))))))))))
  refine a0' rfl (a1' rfl (a2' rfl (pa' rfl (G' 2 rfl (a1' rfl (a0' rfl (a1' rfl (a2' rfl (pa' rfl (G' 2 rfl (a1' rfl (a0' rfl (a1' rfl ?_)))))))))))))
  refine a2' rfl (pa' rfl (G' 2 rfl (a1' rfl (a0' rfl (a1' rfl (AG.c rfl rfl (fun hg=>⟨hg,hg,trivial⟩) (fun hw=>Ks (L1 hw hx1)) (pa' rfl (G' 2 rfl (a1' rfl (a0' rfl (a1' rfl (AG.c rfl rfl (fun hg=>⟨hg,hg,trivial⟩) (fun hw=>ih1 _ _ _ (L1 hw hx2)) (pa' rfl ?_)))))))))))))
  exact a0' rfl (an' (n' (re' (rt' rfl rfl rfl))))
 ·intro g2 ih2 s1 s2 res hh
  refine N0.intro hC Tryz.func264 rfl rfl rfl (t' rfl (S' (p' 1 rfl (qe' rfl trivial (F0.lenA _) (q' rfl (qe' rfl trivial (F0.lenA _) (e' rfl (ci' rfl hh (fun hh=>?_) (fun hh=>?_)))))))))
  ·cases hh
   exact t' rfl (re' (rt' rfl rfl rfl))
  exact sk' (S' (p' 1 rfl (qe' rfl trivial (F0.lenA _) (e' rfl (bk' (fw' (ih2 _ _ _ _ hh) rfl rfl rfl))))))
 ·intro g0 g2 ih0 ih2 s1 s2 v17 res hh
  refine Y0.unroll (t' rfl (S' (ci' rfl hh (fun hh=>?_) (fun hh=>?_))))
  ·obtain ⟨x1,hx1,hh⟩:=bs' hh
   obtain ⟨x2,hx2,hh⟩:=bs' hh
   obtain ⟨x3,hx3,hh⟩:=bs' hh
   refine sk' (S' (bk' (p' 1 rfl (i' rfl (S0 hx1) (F0.idx hx1) rfl (q' rfl (K0.nf hC rfl (q' rfl (K0.s hC rfl (n' (p' 2 rfl (i' rfl (S0 hx2) (F0.idx hx2) rfl (q' rfl (K0.nf hC rfl ?_)))))))))))))
   refine K0.s hC rfl (n' (p' 3 rfl (c' (ih0 _ _ _ hx3) rfl rfl (e' rfl (ci' rfl hh (fun hh=>?_) (fun hh=>?_))))))
   ·cases hh
    exact t' rfl (re' (rt' rfl rfl rfl))
   exact sk' (T' rfl (lw' (ih2 _ _ _ _ hh) rfl rfl rfl))
  cases hh
  exact ex' (t' rfl (re' (rt' rfl rfl rfl)))
theorem T16 {a b res}(hh:Y4 a b=some res):Pu a b res:=(P14).1 _ _ _ hh
end Go.Proofs.YtbmlpamppbcdeaaGreatDoor

set_option maxRecDepth 100000
set_option maxHeartbeats 4000000
set_option synthInstance.maxSize 20000
set_option linter.unusedVariables false
namespace Go.Proofs.YtbmlpamppbcdeaaGreatDoor
open Go.Am
mutual
def O3 (t:F0)(depth:Int)(syntaxReport:J0):Option J0:=
 R5 depth (J0.mk (IntKind.i64.wrap (syntaxReport.nodes+1)) syntaxReport.depth syntaxReport.badForm syntaxReport.badName syntaxReport.badNumber)>>=fun x1=>
 T0 (bif (decide (t.Kind≥0)) then (decide (t.Kind≤4)) else false) x1>>=fun x2=>
 T0 (bif (t.Kind == 1) then true else (bif (t.Low == 0) then (t.High == 0) else false)) x2>>=fun x3=>
 T0 (bif (t.Kind == 2) then true else (t.Size == 0)) x3>>=fun x4=>
 T0 (bif (t.Kind == 4) then true else (t.Name == [])) x4>>=fun x5=>
 T0 (bif (t.Kind == 3) then true else (((t.Names).length:Int) == 0)) x5>>=fun x6=>
 if (t.Kind == 2)=true then
  T0 (((t.Of).length:Int) == 1) x6>>=fun x7=>
  Y2 t.Size 1 32>>=fun x8=>
  U1 x8 x7>>=fun x9=>
  T5 t depth x9
 else
  if (t.Kind == 3)=true then
   T0 (bif (decide (((t.Of).length:Int)≥1)) then (((t.Of).length:Int) == ((t.Names).length:Int)) else false) x6>>=fun x14=>
   U1 (decide (((t.Of).length:Int)≤32)) x14>>=fun x15=>
   T5 t depth x15
  else
   T0 (((t.Of).length:Int) == 0) x6>>=fun x16=>
   T5 t depth x16
 partial_fixpoint
def T5 (t:F0)(depth:Int)(o0:J0):Option J0:=
 if (t.Kind == 1)=true then
  Y2 t.Low (-1048576) 1048576>>=fun x10=>
  (if x10=true then Y2 t.High t.Low 1048576 else some default)>>=fun x11=>
  U1 (bif x10 then x11 else false) o0>>=fun x12=>
  U5 t depth x12
 else
  U5 t depth o0
 partial_fixpoint
def U5 (t:F0)(depth:Int)(o01:J0):Option J0:=
 if (t.Kind == 4)=true then
  E3 t.Name o01>>=fun x13=>
  I7 t depth x13
 else
  I7 t depth o01
 partial_fixpoint
def I7 (t:F0)(depth:Int)(o02:J0):Option J0:=
 Q3 t depth o02 0
 partial_fixpoint
def Q3 (t:F0)(depth:Int)(o03:J0)(v147:Int):Option J0:=
 if (decide (v147 < ((t.Names).length:Int)))=true then
  idx t.Names v147>>=fun x17=>
  E3 x17 o03>>=fun x18=>
  Q3 t depth x18 (IntKind.i64.wrap (v147+1))
 else
  J4 t depth o03 0
 partial_fixpoint
def J4 (t:F0)(depth:Int)(o04:J0)(v158:Int):Option J0:=
 if (decide (v158 < ((t.Of).length:Int)))=true then
  idx t.Of v158>>=fun x19=>
  O3 x19 (IntKind.i64.wrap (depth+1)) o04>>=fun x20=>
  J4 t depth x20 (IntKind.i64.wrap (v158+1))
 else
  some o04
 partial_fixpoint
end
abbrev Ss (t:F0)(depth:Int)(syntaxReport:J0)(res:J0):Prop:=N0 C 129 [.ref 0 0,.agg (F0.cells t),.d (.int .i64 depth)] [.row (J0.cells syntaxReport) 142] (Ret [.row (J0.cells res) 142] (.tup []))
abbrev M11 (t:F0)(depth:Int)(o0:J0)(res:J0):Prop:=JM C 168 1 Tryz.f129 [1,1,1,1,1,1,1,1,1,1] [(0,.ref 0 0),(2,.d (.int .i64 depth)),(4,.ref 1 0),(6,.d (.bool (t.Kind == 1))),(9,.d (.bool (t.Kind == 4)))] [.row (J0.cells o0) 142,.row (F0.cells t) 48] (Ret [.row (J0.cells res) 142] (.tup []))
abbrev N11 (t:F0)(depth:Int)(o01:J0)(res:J0):Prop:=JM C 168 1 Tryz.f129 [1,1,1,1,1,1,1,1,1,1,1] [(0,.ref 0 0),(2,.d (.int .i64 depth)),(4,.ref 1 0),(9,.d (.bool (t.Kind == 4)))] [.row (J0.cells o01) 142,.row (F0.cells t) 48] (Ret [.row (J0.cells res) 142] (.tup []))
abbrev O11 (t:F0)(depth:Int)(o02:J0)(res:J0):Prop:=JM C 168 1 Tryz.f129 [1,1,1,1,1,1,1,1,1,1,1,1] [(0,.ref 0 0),(2,.d (.int .i64 depth)),(4,.ref 1 0)] [.row (J0.cells o02) 142,.row (F0.cells t) 48] (Ret [.row (J0.cells res) 142] (.tup []))
abbrev P11 (t:F0)(depth:Int)(o03:J0)(v147:Int)(res:J0):Prop:=LM C 168 1 Tryz.f129 [1,1,1,1,1,1,1,1,1,1,1,1,0,1,4] [(0,.ref 0 0),(2,.d (.int .i64 depth)),(4,.ref 1 0),(145,.d (.sl (estr.rows t.Names))),(146,.d (.int .i64 ((t.Names).length:Int))),(147,.d (.int .i64 v147))] [.row (J0.cells o03) 142,.row (F0.cells t) 48] (Ret [.row (J0.cells res) 142] (.tup []))
abbrev Q11 (t:F0)(depth:Int)(o04:J0)(v158:Int)(res:J0):Prop:=LM C 168 1 Tryz.f129 [1,1,1,1,1,1,1,1,1,1,1,1,1,1,4] [(0,.ref 0 0),(2,.d (.int .i64 depth)),(156,.d (.sl (F0.rows t.Of))),(157,.d (.int .i64 ((t.Of).length:Int))),(158,.d (.int .i64 v158))] [.row (J0.cells o04) 142] (Ret [.row (J0.cells res) 142] (.tup []))
theorem Z12:(∀ t depth syntaxReport res,O3 t depth syntaxReport=some res→Ss t depth syntaxReport res)∧(∀ t depth o0 res,T5 t depth o0=some res→M11 t depth o0 res)∧(∀ t depth o01 res,U5 t depth o01=some res→N11 t depth o01 res)∧(∀ t depth o02 res,I7 t depth o02=some res→O11 t depth o02 res)∧(∀ t depth o03 v147 res,Q3 t depth o03 v147=some res→P11 t depth o03 v147 res)∧(∀ t depth o04 v158 res,J4 t depth o04 v158=some res→Q11 t depth o04 v158 res):=by
 refine O3.mutual_partial_correctness _ _ _ _ _ _ ?_ ?_ ?_ ?_ ?_ ?_
 ·intro g1 ih1 t depth syntaxReport res hh
  obtain ⟨x1,hx1,hh⟩:=bs' hh
  obtain ⟨x2,hx2,hh⟩:=bs' hh
  obtain ⟨x3,hx3,hh⟩:=bs' hh
  obtain ⟨x4,hx4,hh⟩:=bs' hh
  obtain ⟨x5,hx5,hh⟩:=bs' hh
  obtain ⟨x6,hx6,hh⟩:=bs' hh
  refine N0.intro hC Tryz.func129 rfl rfl rfl (s' rfl rfl (K0.n hC rfl (n' (p' 7 rfl (K0.s hC rfl (n' (p' 2 rfl (g' [0] (Sl hx1) rfl rfl rfl rfl rfl rfl (n' (sg' 9 rfl (G' 6 rfl (a1' rfl (a1' rfl ?_)))))))))))))
  refine pa' rfl (an' (g' [0] (X0 hx2) rfl rfl rfl rfl rfl rfl (n' (S' (AEx.draw hC 16 rfl rfl rfl (E' rfl (n' (sg' 12 rfl (G' 4 rfl (a1' rfl (a1' rfl (a1' rfl (a0' rfl ?_)))))))))))))
  refine a1' rfl (a1' rfl (pA' rfl (po' rfl (an' (g' [0] (X0 hx3) rfl rfl rfl rfl rfl rfl (n' (sg' 7 rfl (G' 4 rfl (a1' rfl (a1' rfl (po' rfl (an' (g' [0] (X0 hx4) rfl rfl rfl rfl rfl rfl ?_)))))))))))))
  refine n' (sg' 7 rfl (G' 4 rfl (a1' rfl (a1' rfl (po' rfl (an' (g' [0] (X0 hx5) rfl rfl rfl rfl rfl rfl (n' (sg' 8 rfl (G' 4 rfl (a1' rfl (AG.qe hC rfl (fun hg=>⟨⟨hg,trivial⟩,trivial⟩) (estr.lenA _) (a1' rfl ?_)))))))))))))
  refine po' rfl (an' (g' [0] (X0 hx6) rfl rfl rfl rfl rfl rfl (n' (S' (bk' (t' rfl (ci' rfl hh (fun hh=>?_) (fun hh=>?_))))))))
  ·obtain ⟨x7,hx7,hh⟩:=bs' hh
   obtain ⟨x8,hx8,hh⟩:=bs' hh
   obtain ⟨x9,hx9,hh⟩:=bs' hh
   exact p' 3 rfl (qe' rfl trivial (F0.lenA _) (q' rfl (g' [0] (X0 hx7) rfl rfl rfl rfl rfl rfl (n' (P' 3 rfl (c' (F4 hx8) rfl rfl (g' [0] (W2 hx9) rfl rfl rfl rfl rfl rfl (n' (ew' (ih1 _ _ _ _ hh) rfl rfl rfl)))))))))
  refine t' rfl (ci' rfl hh (fun hh=>?_) (fun hh=>?_))
  ·obtain ⟨x14,hx14,hh⟩:=bs' hh
   obtain ⟨x15,hx15,hh⟩:=bs' hh
   refine sg' 14 rfl (G' 3 rfl (AG.qe hC rfl (fun hg=>⟨trivial,trivial⟩) (F0.lenA _) (G' 3 rfl (a1' rfl (AG.qe hC rfl (fun hg=>⟨⟨hg,trivial⟩,trivial⟩) (F0.lenA _) (a0' rfl (a1' rfl (AG.qe hC rfl (fun hg=>⟨⟨hg,trivial⟩,trivial⟩) (estr.lenA _) (a2' rfl (pa' rfl (an' (g' [0] (X0 hx14) rfl rfl rfl rfl rfl rfl (n' ?_)))))))))))))
   exact P' 3 rfl (qe' rfl trivial (F0.lenA _) (q' rfl (g' [0] (W2 hx15) rfl rfl rfl rfl rfl rfl (n' (ew' (ih1 _ _ _ _ hh) rfl rfl rfl)))))
  obtain ⟨x16,hx16,hh⟩:=bs' hh
  exact P' 3 rfl (qe' rfl trivial (F0.lenA _) (q' rfl (g' [0] (X0 hx16) rfl rfl rfl rfl rfl rfl (n' (ew' (ih1 _ _ _ _ hh) rfl rfl rfl)))))
 ·intro g2 ih2 t depth o0 res hh
  refine S' (t' rfl (ci' rfl hh (fun hh=>?_) (fun hh=>?_)))
  ·obtain ⟨x10,hx10,hh⟩:=bs' hh
   obtain ⟨x11,hx11,hh⟩:=bs' hh
   obtain ⟨x12,hx12,hh⟩:=bs' hh
   exact AEx.regionG 11 rfl (G' 3 rfl (AG.c rfl rfl (fun _=>trivial) (fun _=>F4 hx10) (G' 2 rfl (a1' rfl (a0' rfl (a1' rfl (AG.c rfl rfl (fun hg=>⟨hg,hg,trivial⟩) (fun hw=>F4 (L1 hw hx11)) (pa' rfl (an' (g' [0] (W2 hx12) rfl rfl rfl rfl rfl rfl (n' (ew' (ih2 _ _ _ _ hh) rfl rfl rfl))))))))))))
  exact sk' (ew' (ih2 _ _ _ _ hh) rfl rfl rfl)
 ·intro g3 ih3 t depth o01 res hh
  refine S' (t' rfl (ci' rfl hh (fun hh=>?_) (fun hh=>?_)))
  ·obtain ⟨x13,hx13,hh⟩:=bs' hh
   exact P' 3 rfl (g' [0] (Cc hx13) rfl rfl rfl rfl rfl rfl (n' (ew' (ih3 _ _ _ _ hh) rfl rfl rfl)))
  exact sk' (ew' (ih3 _ _ _ _ hh) rfl rfl rfl)
 ·intro g4 ih4 t depth o02 res hh
  exact S' (p' 2 rfl (qe' rfl trivial (estr.lenA _) (e' rfl (bk' (fw' (ih4 _ _ _ _ _ hh) rfl rfl rfl)))))
 ·intro g4 g5 ih4 ih5 t depth o03 v147 res hh
  refine Y0.unroll (t' rfl (S' (ci' rfl hh (fun hh=>?_) (fun hh=>?_))))
  ·obtain ⟨x17,hx17,hh⟩:=bs' hh
   obtain ⟨x18,hx18,hh⟩:=bs' hh
   exact sk' (S' (bk' (s' rfl rfl (i' rfl (S0 hx17) (estr.idx hx17) rfl (e' rfl (P' 2 rfl (g' [0] (Cc hx18) rfl rfl rfl rfl rfl rfl (n' (T' rfl (lw' (ih4 _ _ _ _ _ hh) rfl rfl rfl))))))))))
  exact ex' (p' 2 rfl (qe' rfl trivial (F0.lenA _) (e' rfl (bk' (fw' (ih5 _ _ _ _ _ hh) rfl rfl rfl)))))
 ·intro g0 g5 ih0 ih5 t depth o04 v158 res hh
  refine Y0.unroll (t' rfl (S' (ci' rfl hh (fun hh=>?_) (fun hh=>?_))))
  ·obtain ⟨x19,hx19,hh⟩:=bs' hh
   obtain ⟨x20,hx20,hh⟩:=bs' hh
   exact sk' (S' (bk' (s' rfl rfl (i' rfl (S0 hx19) (F0.idx hx19) rfl (q' rfl (K0.nf hC rfl (K0.s hC rfl (n' (P' 4 rfl (g' [0] (ih0 _ _ _ _ hx20) rfl rfl rfl rfl rfl rfl (n' (T' rfl (lw' (ih5 _ _ _ _ _ hh) rfl rfl rfl)))))))))))))
  cases hh
  exact ex' (rn' rfl rfl rfl)
theorem Q14 {t depth syntaxReport res}(hh:O3 t depth syntaxReport=some res):Ss t depth syntaxReport res:=(Z12).1 _ _ _ _ hh
mutual
def H4 (a:A0)(b:A0):Option Bool:=
 (if (bif (bif (a.Op == b.Op) then (a.NV == b.NV) else false) then (a.Name == b.Name) else false)=true then T1 a.Kids b.Kids else some default)>>=fun x1=>
 some (bif (bif (bif (a.Op == b.Op) then (a.NV == b.NV) else false) then (a.Name == b.Name) else false) then x1 else false)
 partial_fixpoint
def T1 (s1:List A0)(s2:List A0):Option Bool:=
 if (((s1).length:Int) != ((s2).length:Int))=true then
  some false
 else
  B1 s1 s2 0
 partial_fixpoint
def B1 (s1:List A0)(s2:List A0)(v17:Int):Option Bool:=
 if (decide (v17 < ((s1).length:Int)))=true then
  idx s1 v17>>=fun x1=>
  idx s2 v17>>=fun x2=>
  H4 x1 x2>>=fun x3=>
  if (!x3)=true then
   some false
  else
   B1 s1 s2 (IntKind.i64.wrap (v17+1))
 else
  some true
 partial_fixpoint
end
abbrev Qu (a:A0)(b:A0)(res:Bool):Prop:=N0 C 265 [.agg (A0.cells a),.agg (A0.cells b)] [] (Ret [] (.d (.bool res)))
abbrev Fh (s1:List A0)(s2:List A0)(res:Bool):Prop:=N0 C 286 [.d (.sl (A0.rows s1)),.d (.sl (A0.rows s2)),.clo 265 []] [] (Ret [] (.d (.bool res)))
abbrev Tf (s1:List A0)(s2:List A0)(v17:Int)(res:Bool):Prop:=LM C 32 0 Tryz.f286 [1,1,0,1,4] [(1,.d (.sl (A0.rows s2))),(2,.clo 265 []),(15,.d (.sl (A0.rows s1))),(16,.d (.int .i64 ((s1).length:Int))),(17,.d (.int .i64 v17))] [] (Ret [] (.d (.bool res)))
theorem R14:(∀ a b res,H4 a b=some res→Qu a b res)∧(∀ s1 s2 res,T1 s1 s2=some res→Fh s1 s2 res)∧(∀ s1 s2 v17 res,B1 s1 s2 v17=some res→Tf s1 s2 v17 res):=by
 refine H4.mutual_partial_correctness _ _ _ ?_ ?_ ?_
 ·intro g1 ih1 a b res hh
  obtain ⟨x1,hx1,hh⟩:=bs' hh
  cases hh
  refine N0.intro hC Tryz.func265 rfl rfl rfl (s' rfl rfl (K0.n hC rfl (K0.n hC rfl (e' rfl (sg' 27 rfl (G' 7 rfl (a1' rfl (a0' rfl (a1' rfl (a2' rfl (pa' rfl (G' 2 rfl (a1' rfl ?_)))))))))))))
  exact a0' rfl (a1' rfl (a2' rfl (pa' rfl (G' 2 rfl (a1' rfl (a0' rfl (a1' rfl (AG.c rfl rfl (fun hg=>⟨hg,hg,trivial⟩) (fun hw=>ih1 _ _ _ (L1 hw hx1)) (pa' rfl (a0' rfl (an' (n' (re' (rt' rfl rfl rfl))))))))))))))
 ·intro g2 ih2 s1 s2 res hh
  refine N0.intro hC Tryz.func286 rfl rfl rfl (t' rfl (S' (p' 1 rfl (qe' rfl trivial (A0.lenA _) (q' rfl (qe' rfl trivial (A0.lenA _) (e' rfl (ci' rfl hh (fun hh=>?_) (fun hh=>?_)))))))))
  ·cases hh
   exact t' rfl (re' (rt' rfl rfl rfl))
  exact sk' (S' (p' 1 rfl (qe' rfl trivial (A0.lenA _) (e' rfl (bk' (fw' (ih2 _ _ _ _ hh) rfl rfl rfl))))))
 ·intro g0 g2 ih0 ih2 s1 s2 v17 res hh
  refine Y0.unroll (t' rfl (S' (ci' rfl hh (fun hh=>?_) (fun hh=>?_))))
  ·obtain ⟨x1,hx1,hh⟩:=bs' hh
   obtain ⟨x2,hx2,hh⟩:=bs' hh
   obtain ⟨x3,hx3,hh⟩:=bs' hh
   refine sk' (S' (bk' (p' 1 rfl (i' rfl (S0 hx1) (A0.idx hx1) rfl (q' rfl (K0.nf hC rfl (q' rfl (K0.s hC rfl (n' (p' 2 rfl (i' rfl (S0 hx2) (A0.idx hx2) rfl (q' rfl (K0.nf hC rfl ?_)))))))))))))
   refine K0.s hC rfl (n' (p' 3 rfl (c' (ih0 _ _ _ hx3) rfl rfl (e' rfl (ci' rfl hh (fun hh=>?_) (fun hh=>?_))))))
   ·cases hh
    exact t' rfl (re' (rt' rfl rfl rfl))
   exact sk' (T' rfl (lw' (ih2 _ _ _ _ hh) rfl rfl rfl))
  cases hh
  exact ex' (t' rfl (re' (rt' rfl rfl rfl)))
theorem U16 {a b res}(hh:H4 a b=some res):Qu a b res:=(R14).1 _ _ _ hh
def Q2 (e:A0)(used:Bool)(syntaxReport:J0):Option J0:=
 (if (!used)=true then H4 e (A0.mk 0 0 [] []) else some default)>>=fun x1=>
 if (bif (!used) then x1 else false)=true then
  some syntaxReport
 else
  T0 used syntaxReport>>=fun x2=>
  E2 e 1 x2>>=fun x3=>
  some x3
theorem Xi {e used syntaxReport res}(hh:Q2 e used syntaxReport=some res):N0 C 229 [.ref 0 0,.agg (A0.cells e),.d (.bool used)] [.row (J0.cells syntaxReport) 142] (Ret [.row (J0.cells res) 142] (.tup [])):=by
 unfold Q2 at hh
 obtain ⟨x1,hx1,hh⟩:=bs' hh
 refine N0.intro hC Tryz.func229 rfl rfl rfl (s' rfl rfl (K0.n hC rfl (n' (S' (sg' 7 rfl (G' 5 rfl (AG.c rfl rfl (fun hg=>⟨hg,hg,trivial⟩) (fun hw=>U16 (L1 hw hx1)) (pa' rfl (an' (n' (ci' rfl hh (fun hh=>?_) (fun hh=>?_))))))))))))
 ·cases hh
  exact re' (rt' rfl rfl rfl)
 obtain ⟨x2,hx2,hh⟩:=bs' hh
 obtain ⟨x3,hx3,hh⟩:=bs' hh
 cases hh
 exact sk' (p' 2 rfl (g' [0] (X0 hx2) rfl rfl rfl rfl rfl rfl (n' (P' 2 rfl (g' [0] (Vl hx3) rfl rfl rfl rfl rfl rfl (n' (rn' rfl rfl rfl)))))))
def J7 (v:Int):Option (I1×Bool):=
 if (v == 0)=true then
  some ((I1.mk true true false false false false false false false),true)
 else
  if (v == 1)=true then
   some ((I1.mk true false true true false false false false false),true)
  else
   if (v == 2)=true then
    some ((I1.mk true false true false false false false false false),true)
   else
    if (v == 3)=true then
     some ((I1.mk false true false false false false false false false),true)
    else
     if (v == 4)=true then
      some ((I1.mk false false false false true false false false false),true)
     else
      if (v == 5)=true then
       some ((I1.mk false true false false false false false true true),true)
      else
       if (v == 6)=true then
        some ((I1.mk false true false false true false false true false),true)
       else
        if (v == 7)=true then
         some ((I1.mk false false true false false true false true false),true)
        else
         if (v == 8)=true then
          some ((I1.mk false false false false false false true false false),true)
         else
          some ((I1.mk false false false false false false false false false),false)
theorem Mn {v res}(hh:J7 v=some res):N0 C 108 [.d (.int .i64 v)] [] (Ret [] (.tup [.agg (I1.cells res.1),.d (.bool res.2)])):=by
 unfold J7 at hh
 refine N0.intro hC Tryz.func108 rfl rfl rfl (s' rfl rfl (K0.n hC rfl (e' rfl (S' (t' rfl (bk' (t' rfl (ci' rfl hh (fun hh=>?_) (fun hh=>?_)))))))))
 ·cases hh
  exact p' 1 rfl (K0.s hC rfl (e' rfl (re' (rt' rfl rfl rfl))))
 refine t' rfl (ci' rfl hh (fun hh=>?_) (fun hh=>?_))
 ·cases hh
  exact p' 1 rfl (K0.s hC rfl (e' rfl (re' (rt' rfl rfl rfl))))
 refine t' rfl (ci' rfl hh (fun hh=>?_) (fun hh=>?_))
 ·cases hh
  exact p' 1 rfl (K0.s hC rfl (e' rfl (re' (rt' rfl rfl rfl))))
 refine t' rfl (ci' rfl hh (fun hh=>?_) (fun hh=>?_))
 ·cases hh
  exact p' 1 rfl (K0.s hC rfl (e' rfl (re' (rt' rfl rfl rfl))))
 refine t' rfl (ci' rfl hh (fun hh=>?_) (fun hh=>?_))
 ·cases hh
  exact p' 1 rfl (K0.s hC rfl (e' rfl (re' (rt' rfl rfl rfl))))
 refine t' rfl (ci' rfl hh (fun hh=>?_) (fun hh=>?_))
 ·cases hh
  exact p' 1 rfl (K0.s hC rfl (e' rfl (re' (rt' rfl rfl rfl))))
 refine t' rfl (ci' rfl hh (fun hh=>?_) (fun hh=>?_))
 ·cases hh
  exact p' 1 rfl (K0.s hC rfl (e' rfl (re' (rt' rfl rfl rfl))))
 refine t' rfl (ci' rfl hh (fun hh=>?_) (fun hh=>?_))
 ·cases hh
  exact p' 1 rfl (K0.s hC rfl (e' rfl (re' (rt' rfl rfl rfl))))
 refine t' rfl (ci' rfl hh (fun hh=>?_) (fun hh=>?_))
 ·cases hh
  exact p' 1 rfl (K0.s hC rfl (e' rfl (re' (rt' rfl rfl rfl))))
 cases hh
 exact sk' (p' 1 rfl (K0.s hC rfl (e' rfl (re' (rt' rfl rfl rfl)))))
def F2 (s:C0)(o0:J0)(last:Int)(v58:Int):Option J0:=
 if (decide (v58 < ((s.Numbers).length:Int)))=true then
  idx s.Numbers v58>>=fun x10=>
  Y2 x10 0 1048576>>=fun x11=>
  U1 (bif x11 then (decide (x10 > last)) else false) o0>>=fun x12=>
  F2 s x12 x10 (IntKind.i64.wrap (v58+1))
 else
  some o0
 partial_fixpoint
abbrev An (s:C0)(o0:J0)(last:Int)(v58:Int)(res:J0):Prop:=LM C 73 1 Tryz.f230 [1,1,4,1,3,1,3,1,3,1,2,1,1,1,4] [(0,.ref 0 0),(5,.d (.int .i64 last)),(56,.d (.sl (ei64.rows s.Numbers))),(57,.d (.int .i64 ((s.Numbers).length:Int))),(58,.d (.int .i64 v58))] [.row (J0.cells o0) 142] (Ret [.row (J0.cells res) 142] (.tup []))
theorem Kt (s:C0):(∀ o0 last v58 res,F2 s o0 last v58=some res→An s o0 last v58 res):=by
 refine F2.partial_correctness s _ ?_
 ·intro g0 ih0 o0 last v58 res hh
  refine Y0.unroll (t' rfl (S' (ci' rfl hh (fun hh=>?_) (fun hh=>?_))))
  ·obtain ⟨x10,hx10,hh⟩:=bs' hh
   obtain ⟨x11,hx11,hh⟩:=bs' hh
   obtain ⟨x12,hx12,hh⟩:=bs' hh
   refine sk' (S' (bk' (s' rfl rfl (i' rfl (S0 hx10) (ei64.idx hx10) rfl (e' rfl (sg' 8 rfl (G' 2 rfl (AG.c rfl rfl (fun _=>trivial) (fun _=>F4 hx11) (G' 3 rfl (a2' rfl (pa' rfl (an' (g' [0] (W2 hx12) rfl rfl rfl rfl rfl rfl ?_)))))))))))))
   exact n' (T' rfl (T' rfl (lw' (ih0 _ _ _ _ hh) rfl rfl rfl)))
  cases hh
  exact ex' (rn' rfl rfl rfl)
theorem Ru {s o0 last v58 res}(hh:F2 s o0 last v58=some res):An s o0 last v58 res:=(Kt s) _ _ _ _ hh
def C5 (s:C0)(syntaxReport:J0):Option J0:=
 if (s.Verb == 4)=true then
  Y2 s.NV 0 1048576>>=fun x1=>
  U1 x1 syntaxReport>>=fun x2=>
  some x2
 else
  if (s.Verb == 6)=true then
   Y2 s.NV 0 4096>>=fun x3=>
   U1 x3 syntaxReport>>=fun x4=>
   some x4
  else
   if (s.Verb == 7)=true then
    Y2 s.Low (-1048576) 1048576>>=fun x5=>
    (if x5=true then Y2 s.High s.Low 1048576 else some default)>>=fun x6=>
    U1 (bif (bif x5 then x6 else false) then (decide ((IntKind.i64.wrap (s.High - s.Low)) < 4096)) else false) syntaxReport>>=fun x7=>
    some x7
   else
    if (s.Verb == 8)=true then
     Y2 ((s.Numbers).length:Int) 1 32>>=fun x8=>
     U1 x8 syntaxReport>>=fun x9=>
     F2 s x9 (-1) 0
    else
     some syntaxReport
theorem Oy {s syntaxReport res}(hh:C5 s syntaxReport=some res):N0 C 230 [.ref 0 0,.agg (C0.cells s)] [.row (J0.cells syntaxReport) 142] (Ret [.row (J0.cells res) 142] (.tup [])):=by
 unfold C5 at hh
 refine N0.intro hC Tryz.func230 rfl rfl rfl (s' rfl rfl (K0.n hC rfl (n' (t' rfl (bk' (t' rfl (ci' rfl hh (fun hh=>?_) (fun hh=>?_))))))))
 ·obtain ⟨x1,hx1,hh⟩:=bs' hh
  obtain ⟨x2,hx2,hh⟩:=bs' hh
  cases hh
  exact P' 3 rfl (c' (F4 hx1) rfl rfl (g' [0] (W2 hx2) rfl rfl rfl rfl rfl rfl (n' (rn' rfl rfl rfl))))
 refine t' rfl (ci' rfl hh (fun hh=>?_) (fun hh=>?_))
 ·obtain ⟨x3,hx3,hh⟩:=bs' hh
  obtain ⟨x4,hx4,hh⟩:=bs' hh
  cases hh
  exact P' 3 rfl (c' (F4 hx3) rfl rfl (g' [0] (W2 hx4) rfl rfl rfl rfl rfl rfl (n' (rn' rfl rfl rfl))))
 refine t' rfl (ci' rfl hh (fun hh=>?_) (fun hh=>?_))
 ·obtain ⟨x5,hx5,hh⟩:=bs' hh
  obtain ⟨x6,hx6,hh⟩:=bs' hh
  obtain ⟨x7,hx7,hh⟩:=bs' hh
  cases hh
  refine sg' 11 rfl (G' 2 rfl (AG.c rfl rfl (fun _=>trivial) (fun _=>F4 hx5) (G' 2 rfl (a1' rfl (a0' rfl (a1' rfl (AG.c rfl rfl (fun hg=>⟨hg,hg,trivial⟩) (fun hw=>F4 (L1 hw hx6)) (pa' rfl (a0' rfl (an' (n' (AEx.regionG 10 rfl (G' 4 rfl ?_)))))))))))))
  exact a1' rfl (a0' rfl (a1' rfl (a2' rfl (a1' rfl (pa' rfl (an' (g' [0] (W2 hx7) rfl rfl rfl rfl rfl rfl (n' (rn' rfl rfl rfl)))))))))
 refine t' rfl (ci' rfl hh (fun hh=>?_) (fun hh=>?_))
 ·obtain ⟨x8,hx8,hh⟩:=bs' hh
  obtain ⟨x9,hx9,hh⟩:=bs' hh
  exact p' 3 rfl (qe' rfl trivial (ei64.lenA _) (c' (F4 hx8) rfl rfl (g' [0] (W2 hx9) rfl rfl rfl rfl rfl rfl (n' (t' rfl (p' 2 rfl (qe' rfl trivial (ei64.lenA _) (e' rfl (bk' (fw' (Ru hh) rfl rfl rfl))))))))))
 cases hh
 exact sk' (rn' rfl rfl rfl)
mutual
def J2 (l:List C0)(nesting:Int)(syntaxReport:J0):Option J0:=
 R3 l nesting syntaxReport 0
 partial_fixpoint
def R3 (l:List C0)(nesting:Int)(o03:J0)(v14:Int):Option J0:=
 if (decide (v14 < ((l).length:Int)))=true then
  idx l v14>>=fun x1=>
  R5 nesting (J0.mk (IntKind.i64.wrap (o03.nodes+1)) o03.depth o03.badForm o03.badName o03.badNumber)>>=fun x2=>
  J7 x1.Verb>>=fun x3=>
  T0 x3.2 x2>>=fun x4=>
  Q2 x1.Place x3.1.place x4>>=fun x5=>
  if x3.1.place=true then
   Dh x1.Place>>=fun x6=>
   T0 x6 x5>>=fun x7=>
   M4 l nesting x7 x1 x3 v14
  else
   M4 l nesting x5 x1 x3 v14
 else
  some o03
 partial_fixpoint
def M4 (l:List C0)(nesting:Int)(o0:J0)(x1:C0)(x3:I1×Bool)(v141:Int):Option J0:=
 Q2 x1.Value x3.1.value o0>>=fun x8=>
 T0 (bif x3.1.name then true else (x1.Name == [])) x8>>=fun x9=>
 if x3.1.name=true then
  E3 x1.Name x9>>=fun x10=>
  N4 l nesting x10 x1 x3 v141
 else
  N4 l nesting x9 x1 x3 v141
 partial_fixpoint
def N4 (l:List C0)(nesting:Int)(o01:J0)(x1:C0)(x3:I1×Bool)(v142:Int):Option J0:=
 T0 (bif x3.1.args then true else (((x1.Args).length:Int) == 0)) o01>>=fun x11=>
 C6 l nesting x11 x1 x3 v142 0
 partial_fixpoint
def C6 (l:List C0)(nesting:Int)(o02:J0)(x1:C0)(x3:I1×Bool)(v143:Int)(v84:Int):Option J0:=
 if (decide (v84 < ((x1.Args).length:Int)))=true then
  idx x1.Args v84>>=fun x12=>
  E2 x12 1 o02>>=fun x13=>
  C6 l nesting x13 x1 x3 v143 (IntKind.i64.wrap (v84+1))
 else
  T0 (bif x3.1.n then true else (x1.NV == 0)) o02>>=fun x14=>
  T0 (bif x3.1.bounds then true else (bif (x1.Low == 0) then (x1.High == 0) else false)) x14>>=fun x15=>
  T0 (bif x3.1.numbers then true else (((x1.Numbers).length:Int) == 0)) x15>>=fun x16=>
  T0 (bif x3.1.thenV then true else (((x1.Then).length:Int) == 0)) x16>>=fun x17=>
  T0 (bif x3.1.other then true else (((x1.Else).length:Int) == 0)) x17>>=fun x18=>
  C5 x1 x18>>=fun x19=>
  J2 x1.Then (IntKind.i64.wrap (nesting+1)) x19>>=fun x20=>
  J2 x1.Else (IntKind.i64.wrap (nesting+1)) x20>>=fun x21=>
  R3 l nesting x21 (IntKind.i64.wrap (v143+1))
 partial_fixpoint
end
abbrev Zq (l:List C0)(nesting:Int)(syntaxReport:J0)(res:J0):Prop:=N0 C 169 [.ref 0 0,.d (.sl (C0.rows l)),.d (.int .i64 nesting)] [.row (J0.cells syntaxReport) 142] (Ret [.row (J0.cells res) 142] (.tup []))
abbrev Py (l:List C0)(nesting:Int)(o03:J0)(v14:Int)(res:J0):Prop:=LM C 161 1 Tryz.f169 [1,4] [(0,.ref 0 0),(2,.d (.int .i64 nesting)),(12,.d (.sl (C0.rows l))),(13,.d (.int .i64 ((l).length:Int))),(14,.d (.int .i64 v14))] [.row (J0.cells o03) 142] (Ret [.row (J0.cells res) 142] (.tup []))
abbrev Qy (l:List C0)(nesting:Int)(o0:J0)(x1:C0)(x3:I1×Bool)(v141:Int)(res:J0):Prop:=JM C 161 1 Tryz.f169 [1,4,5,1,1,0,4,1,1,1,1,1,1,1] [(0,.ref 0 0),(2,.d (.int .i64 nesting)),(7,.ref 1 0),(8,.ref 2 0),(12,.d (.sl (C0.rows l))),(13,.d (.int .i64 ((l).length:Int))),(14,.d (.int .i64 v141))] [.row (J0.cells o0) 142,.row (C0.cells x1) 79,.row (I1.cells x3.1) 159] (Ret [.row (J0.cells res) 142] (.tup []))
abbrev Ry (l:List C0)(nesting:Int)(o01:J0)(x1:C0)(x3:I1×Bool)(v142:Int)(res:J0):Prop:=JM C 161 1 Tryz.f169 [1,4,5,1,1,0,4,1,1,1,1,1,1,1,1,1,1] [(0,.ref 0 0),(2,.d (.int .i64 nesting)),(7,.ref 1 0),(8,.ref 2 0),(12,.d (.sl (C0.rows l))),(13,.d (.int .i64 ((l).length:Int))),(14,.d (.int .i64 v142))] [.row (J0.cells o01) 142,.row (C0.cells x1) 79,.row (I1.cells x3.1) 159] (Ret [.row (J0.cells res) 142] (.tup []))
abbrev Sy (l:List C0)(nesting:Int)(o02:J0)(x1:C0)(x3:I1×Bool)(v143:Int)(v84:Int)(res:J0):Prop:=LM C 161 1 Tryz.f169 [1,4,5,1,1,0,4,1,1,1,1,1,1,1,1,1,1,1,0,1,4] [(0,.ref 0 0),(2,.d (.int .i64 nesting)),(7,.ref 1 0),(8,.ref 2 0),(12,.d (.sl (C0.rows l))),(13,.d (.int .i64 ((l).length:Int))),(14,.d (.int .i64 v143)),(82,.d (.sl (A0.rows x1.Args))),(83,.d (.int .i64 ((x1.Args).length:Int))),(84,.d (.int .i64 v84))] [.row (J0.cells o02) 142,.row (C0.cells x1) 79,.row (I1.cells x3.1) 159] (Ret [.row (J0.cells res) 142] (.tup []))
theorem E10:(∀ l nesting syntaxReport res,J2 l nesting syntaxReport=some res→Zq l nesting syntaxReport res)∧(∀ l nesting o03 v14 res,R3 l nesting o03 v14=some res→Py l nesting o03 v14 res)∧(∀ l nesting o0 x1 x3 v141 res,M4 l nesting o0 x1 x3 v141=some res→Qy l nesting o0 x1 x3 v141 res)∧(∀ l nesting o01 x1 x3 v142 res,N4 l nesting o01 x1 x3 v142=some res→Ry l nesting o01 x1 x3 v142 res)∧(∀ l nesting o02 x1 x3 v143 v84 res,C6 l nesting o02 x1 x3 v143 v84=some res→Sy l nesting o02 x1 x3 v143 v84 res):=by
 refine J2.mutual_partial_correctness _ _ _ _ _ ?_ ?_ ?_ ?_ ?_
 ·intro g1 ih1 l nesting syntaxReport res hh
  exact N0.intro hC Tryz.func169 rfl rfl rfl (p' 1 rfl (qe' rfl trivial (C0.lenA _) (e' rfl (bk' (fw' (ih1 _ _ _ _ _ hh) rfl rfl rfl)))))
 ·intro g2 ih2 l nesting o03 v14 res hh
  refine Y0.unroll (t' rfl (S' (ci' rfl hh (fun hh=>?_) (fun hh=>?_))))
  ·obtain ⟨x1,hx1,hh⟩:=bs' hh
   obtain ⟨x2,hx2,hh⟩:=bs' hh
   obtain ⟨x3,hx3,hh⟩:=bs' hh
   obtain ⟨x4,hx4,hh⟩:=bs' hh
   obtain ⟨x5,hx5,hh⟩:=bs' hh
   refine sk' (S' (bk' (s' rfl rfl (i' rfl (S0 hx1) (C0.idx hx1) rfl (q' rfl (K0.nf hC rfl (K0.s hC rfl (n' (p' 7 rfl (K0.s hC rfl (n' (p' 2 rfl (g' [0] (Sl hx2) rfl rfl rfl rfl rfl rfl ?_)))))))))))))
   refine n' (p' 2 rfl (c' (Mn hx3) rfl rfl (o' 3 rfl (K0.n hC rfl (K0.s hC rfl (e' rfl (p' 2 rfl (g' [0] (X0 hx4) rfl rfl rfl rfl rfl rfl (n' (p' 5 rfl (g' [0] (Xi hx5) rfl rfl rfl rfl rfl rfl (n' (S' ?_)))))))))))))
   refine t' rfl (ci' rfl hh (fun hh=>?_) (fun hh=>?_))
   ·obtain ⟨x6,hx6,hh⟩:=bs' hh
    obtain ⟨x7,hx7,hh⟩:=bs' hh
    exact P' 3 rfl (c' (X10 hx6) rfl rfl (g' [0] (X0 hx7) rfl rfl rfl rfl rfl rfl (n' (ew' (ih2 _ _ _ _ _ _ _ hh) rfl rfl rfl))))
   exact sk' (ew' (ih2 _ _ _ _ _ _ _ hh) rfl rfl rfl)
  cases hh
  exact ex' (rn' rfl rfl rfl)
 ·intro g3 ih3 l nesting o0 x1 x3 v141 res hh
  obtain ⟨x8,hx8,hh⟩:=bs' hh
  obtain ⟨x9,hx9,hh⟩:=bs' hh
  refine p' 5 rfl (g' [0] (Xi hx8) rfl rfl rfl rfl rfl rfl (n' (sg' 8 rfl (G' 5 rfl (a1' rfl (a1' rfl (po' rfl (an' (g' [0] (X0 hx9) rfl rfl rfl rfl rfl rfl (n' (S' (t' rfl (ci' rfl hh (fun hh=>?_) (fun hh=>?_))))))))))))))
  ·obtain ⟨x10,hx10,hh⟩:=bs' hh
   exact P' 3 rfl (g' [0] (Cc hx10) rfl rfl rfl rfl rfl rfl (n' (ew' (ih3 _ _ _ _ _ _ _ hh) rfl rfl rfl)))
  exact sk' (ew' (ih3 _ _ _ _ _ _ _ hh) rfl rfl rfl)
 ·intro g4 ih4 l nesting o01 x1 x3 v142 res hh
  obtain ⟨x11,hx11,hh⟩:=bs' hh
  exact sg' 9 rfl (G' 5 rfl (a1' rfl (AG.qe hC rfl (fun hg=>⟨⟨hg,trivial⟩,trivial⟩) (A0.lenA _) (a1' rfl (po' rfl (an' (g' [0] (X0 hx11) rfl rfl rfl rfl rfl rfl (n' (S' (p' 2 rfl (qe' rfl trivial (A0.lenA _) (e' rfl (bk' (fw' (ih4 _ _ _ _ _ _ _ _ hh) rfl rfl rfl))))))))))))))
 ·intro g0 g1 g4 ih0 ih1 ih4 l nesting o02 x1 x3 v143 v84 res hh
  refine Y0.unroll (t' rfl (S' (ci' rfl hh (fun hh=>?_) (fun hh=>?_))))
  ·obtain ⟨x12,hx12,hh⟩:=bs' hh
   obtain ⟨x13,hx13,hh⟩:=bs' hh
   exact sk' (S' (bk' (s' rfl rfl (i' rfl (S0 hx12) (A0.idx hx12) rfl (q' rfl (K0.nf hC rfl (K0.s hC rfl (n' (P' 2 rfl (g' [0] (Vl hx13) rfl rfl rfl rfl rfl rfl (n' (T' rfl (lw' (ih4 _ _ _ _ _ _ _ _ hh) rfl rfl rfl)))))))))))))
  obtain ⟨x14,hx14,hh⟩:=bs' hh
  obtain ⟨x15,hx15,hh⟩:=bs' hh
  obtain ⟨x16,hx16,hh⟩:=bs' hh
  obtain ⟨x17,hx17,hh⟩:=bs' hh
  obtain ⟨x18,hx18,hh⟩:=bs' hh
  obtain ⟨x19,hx19,hh⟩:=bs' hh
  obtain ⟨x20,hx20,hh⟩:=bs' hh
  obtain ⟨x21,hx21,hh⟩:=bs' hh
  refine ex' (sg' 8 rfl (G' 5 rfl (a1' rfl (a1' rfl (po' rfl (an' (g' [0] (X0 hx14) rfl rfl rfl rfl rfl rfl (n' (sg' 13 rfl (G' 5 rfl (a1' rfl (a1' rfl (a1' rfl ?_)))))))))))))
  refine a0' rfl (a1' rfl (a1' rfl (pA' rfl (po' rfl (an' (g' [0] (X0 hx15) rfl rfl rfl rfl rfl rfl (n' (sg' 9 rfl (G' 5 rfl (a1' rfl (AG.qe hC rfl (fun hg=>⟨⟨hg,trivial⟩,trivial⟩) (ei64.lenA _) (a1' rfl (po' rfl ?_)))))))))))))
  refine an' (g' [0] (X0 hx16) rfl rfl rfl rfl rfl rfl (n' (sg' 9 rfl (G' 5 rfl (a1' rfl (AG.qe hC rfl (fun hg=>⟨⟨hg,trivial⟩,trivial⟩) (C0.lenA _) (a1' rfl (po' rfl (an' (g' [0] (X0 hx17) rfl rfl rfl rfl rfl rfl (n' (sg' 9 rfl (G' 5 rfl ?_)))))))))))))
  refine a1' rfl (AG.qe hC rfl (fun hg=>⟨⟨hg,trivial⟩,trivial⟩) (C0.lenA _) (a1' rfl (po' rfl (an' (g' [0] (X0 hx18) rfl rfl rfl rfl rfl rfl (n' (p' 2 rfl (g' [0] (Oy hx19) rfl rfl rfl rfl rfl rfl (n' (p' 5 rfl (g' [0] (ih0 _ _ _ _ hx20) rfl rfl rfl rfl rfl rfl (n' (P' 5 rfl ?_)))))))))))))
  exact g' [0] (ih0 _ _ _ _ hx21) rfl rfl rfl rfl rfl rfl (n' (T' rfl (lw' (ih1 _ _ _ _ _ hh) rfl rfl rfl)))
theorem Qp {l nesting syntaxReport res}(hh:J2 l nesting syntaxReport=some res):Zq l nesting syntaxReport res:=(E10).1 _ _ _ _ hh
mutual
def L3 (l:List D0)(syntaxReport:J0):Option J0:=
 P4 l syntaxReport 0
 partial_fixpoint
def P4 (l:List D0)(o03:J0)(v15:Int):Option J0:=
 if (decide (v15 < ((l).length:Int)))=true then
  idx l v15>>=fun x1=>
  Yh x1.Kind>>=fun x2=>
  T0 x2.1 (J0.mk (IntKind.i64.wrap (o03.nodes+1)) o03.depth o03.badForm o03.badName o03.badNumber)>>=fun x3=>
  (if (!x2.1)=true then Y4 x1.TypeV (F0.mk 0 0 0 0 [] [] []) else some default)>>=fun x4=>
  if (bif x2.1 then true else (!x4))=true then
   O3 x1.TypeV 1 x3>>=fun x5=>
   D6 l x5 x1 x2 v15
  else
   D6 l x3 x1 x2 v15
 else
  some o03
 partial_fixpoint
def D6 (l:List D0)(o0:J0)(x1:D0)(x2:Bool×Bool)(v151:Int):Option J0:=
 E3 x1.Name o0>>=fun x6=>
 Q2 x1.Value x2.2 x6>>=fun x7=>
 T0 (bif (x1.Kind == 4) then true else (x1.Init == 0)) x7>>=fun x8=>
 Y2 x1.Init (-1048576) 1048576>>=fun x9=>
 (if (x9&&(!(x1.TypeV.Kind != 0)))=true then Y2 x1.Init 0 1 else some default)>>=fun x10=>
 U1 (bif x9 then (bif (x1.TypeV.Kind != 0) then true else x10) else false) x8>>=fun x11=>
 T0 (bif (x1.Kind == 6) then true else (bif (bif (((x1.Params).length:Int) == 0) then (((x1.Vars).length:Int) == 0) else false) then (((x1.Body).length:Int) == 0) else false)) x11>>=fun x12=>
 Q4 l x12 x1 v151 0
 partial_fixpoint
def Q4 (l:List D0)(o01:J0)(x1:D0)(v152:Int)(v109:Int):Option J0:=
 if (decide (v109 < ((x1.Params).length:Int)))=true then
  idx x1.Params v109>>=fun x13=>
  T0 (bif (x13.Kind == 4) then (x13.Init == 0) else false) o01>>=fun x14=>
  Q4 l x14 x1 v152 (IntKind.i64.wrap (v109+1))
 else
  F6 l o01 x1 v152 0
 partial_fixpoint
def F6 (l:List D0)(o02:J0)(x1:D0)(v153:Int)(v127:Int):Option J0:=
 if (decide (v127 < ((x1.Vars).length:Int)))=true then
  idx x1.Vars v127>>=fun x15=>
  T0 (x15.Kind == 4) o02>>=fun x16=>
  F6 l x16 x1 v153 (IntKind.i64.wrap (v127+1))
 else
  L3 x1.Params o02>>=fun x17=>
  L3 x1.Vars x17>>=fun x18=>
  J2 x1.Body 1 x18>>=fun x19=>
  P4 l x19 (IntKind.i64.wrap (v153+1))
 partial_fixpoint
end
abbrev Ar (l:List D0)(syntaxReport:J0)(res:J0):Prop:=N0 C 168 [.ref 0 0,.d (.sl (D0.rows l))] [.row (J0.cells syntaxReport) 142] (Ret [.row (J0.cells res) 142] (.tup []))
abbrev Ty (l:List D0)(o03:J0)(v15:Int)(res:J0):Prop:=LM C 150 1 Tryz.f168 [1,4] [(0,.ref 0 0),(13,.d (.sl (D0.rows l))),(14,.d (.int .i64 ((l).length:Int))),(15,.d (.int .i64 v15))] [.row (J0.cells o03) 142] (Ret [.row (J0.cells res) 142] (.tup []))
abbrev Uy (l:List D0)(o0:J0)(x1:D0)(x2:Bool×Bool)(v151:Int)(res:J0):Prop:=JM C 150 1 Tryz.f168 [1,4,5,1,1,0,4,1,1,1,1,1] [(0,.ref 0 0),(5,.ref 1 0),(7,.d (.bool x2.2)),(13,.d (.sl (D0.rows l))),(14,.d (.int .i64 ((l).length:Int))),(15,.d (.int .i64 v151))] [.row (J0.cells o0) 142,.row (D0.cells x1) 75] (Ret [.row (J0.cells res) 142] (.tup []))
abbrev Vy (l:List D0)(o01:J0)(x1:D0)(v152:Int)(v109:Int)(res:J0):Prop:=LM C 150 1 Tryz.f168 [1,4,5,1,1,0,4,1,1,1,1,1,1,1,1,1,1,1,0,1,4] [(0,.ref 0 0),(5,.ref 1 0),(13,.d (.sl (D0.rows l))),(14,.d (.int .i64 ((l).length:Int))),(15,.d (.int .i64 v152)),(107,.d (.sl (D0.rows x1.Params))),(108,.d (.int .i64 ((x1.Params).length:Int))),(109,.d (.int .i64 v109))] [.row (J0.cells o01) 142,.row (D0.cells x1) 75] (Ret [.row (J0.cells res) 142] (.tup []))
abbrev Wy (l:List D0)(o02:J0)(x1:D0)(v153:Int)(v127:Int)(res:J0):Prop:=LM C 150 1 Tryz.f168 [1,4,5,1,1,0,4,1,1,1,1,1,1,1,1,1,1,1,1,0,1,4] [(0,.ref 0 0),(5,.ref 1 0),(13,.d (.sl (D0.rows l))),(14,.d (.int .i64 ((l).length:Int))),(15,.d (.int .i64 v153)),(125,.d (.sl (D0.rows x1.Vars))),(126,.d (.int .i64 ((x1.Vars).length:Int))),(127,.d (.int .i64 v127))] [.row (J0.cells o02) 142,.row (D0.cells x1) 75] (Ret [.row (J0.cells res) 142] (.tup []))
theorem F10:(∀ l syntaxReport res,L3 l syntaxReport=some res→Ar l syntaxReport res)∧(∀ l o03 v15 res,P4 l o03 v15=some res→Ty l o03 v15 res)∧(∀ l o0 x1 x2 v151 res,D6 l o0 x1 x2 v151=some res→Uy l o0 x1 x2 v151 res)∧(∀ l o01 x1 v152 v109 res,Q4 l o01 x1 v152 v109=some res→Vy l o01 x1 v152 v109 res)∧(∀ l o02 x1 v153 v127 res,F6 l o02 x1 v153 v127=some res→Wy l o02 x1 v153 v127 res):=by
 refine L3.mutual_partial_correctness _ _ _ _ _ ?_ ?_ ?_ ?_ ?_
 ·intro g1 ih1 l syntaxReport res hh
  exact N0.intro hC Tryz.func168 rfl rfl rfl (p' 1 rfl (qe' rfl trivial (D0.lenA _) (e' rfl (bk' (fw' (ih1 _ _ _ _ hh) rfl rfl rfl)))))
 ·intro g2 ih2 l o03 v15 res hh
  refine Y0.unroll (t' rfl (S' (ci' rfl hh (fun hh=>?_) (fun hh=>?_))))
  ·obtain ⟨x1,hx1,hh⟩:=bs' hh
   obtain ⟨x2,hx2,hh⟩:=bs' hh
   obtain ⟨x3,hx3,hh⟩:=bs' hh
   obtain ⟨x4,hx4,hh⟩:=bs' hh
   refine sk' (S' (bk' (s' rfl rfl (i' rfl (S0 hx1) (D0.idx hx1) rfl (q' rfl (K0.nf hC rfl (K0.s hC rfl (n' (p' 7 rfl (K0.s hC rfl (n' (p' 2 rfl (c' (R18 hx2) rfl rfl ?_)))))))))))))
   refine e' rfl (p' 2 rfl (g' [0] (X0 hx3) rfl rfl rfl rfl rfl rfl (n' (S' (sg' 8 rfl (G' 3 rfl (a1' rfl (a0' rfl (AG.c rfl rfl (fun hg=>⟨hg,hg,trivial⟩) (fun hw=>T16 (L1 hw hx4)) (a1' rfl (po' rfl (an' (n' (ci' rfl hh (fun hh=>?_) (fun hh=>?_)))))))))))))))
   ·obtain ⟨x5,hx5,hh⟩:=bs' hh
    exact P' 3 rfl (g' [0] (Q14 hx5) rfl rfl rfl rfl rfl rfl (n' (ew' (ih2 _ _ _ _ _ _ hh) rfl rfl rfl)))
   exact sk' (ew' (ih2 _ _ _ _ _ _ hh) rfl rfl rfl)
  cases hh
  exact ex' (rn' rfl rfl rfl)
 ·intro g3 ih3 l o0 x1 x2 v151 res hh
  obtain ⟨x6,hx6,hh⟩:=bs' hh
  obtain ⟨x7,hx7,hh⟩:=bs' hh
  obtain ⟨x8,hx8,hh⟩:=bs' hh
  obtain ⟨x9,hx9,hh⟩:=bs' hh
  obtain ⟨x10,hx10,hh⟩:=bs' hh
  obtain ⟨x11,hx11,hh⟩:=bs' hh
  obtain ⟨x12,hx12,hh⟩:=bs' hh
  refine p' 3 rfl (g' [0] (Cc hx6) rfl rfl rfl rfl rfl rfl (n' (p' 4 rfl (g' [0] (Xi hx7) rfl rfl rfl rfl rfl rfl (n' (sg' 9 rfl (G' 6 rfl (a1' rfl (a1' rfl (po' rfl (an' (g' [0] (X0 hx8) rfl rfl rfl rfl rfl rfl (n' ?_)))))))))))))
  refine sg' 15 rfl (G' 3 rfl (AG.c rfl rfl (fun _=>trivial) (fun _=>F4 hx9) (G' 2 rfl (a1' rfl (a1' rfl (a1' rfl (a1' rfl (a0' rfl (a1' rfl (AG.c rfl rfl (fun hg=>⟨hg,trivial⟩) (fun hw=>F4 (L1 hw hx10)) (pO' rfl (pa' rfl (an' ?_)))))))))))))
  refine g' [0] (W2 hx11) rfl rfl rfl rfl rfl rfl (n' (t' rfl (sg' 20 rfl (G' 4 rfl (a1' rfl (AG.qe hC rfl (fun hg=>⟨⟨hg,trivial⟩,trivial⟩) (D0.lenA _) (a1' rfl (a1' rfl (a0' rfl (a1' rfl (AG.qe hC rfl (fun hg=>⟨⟨hg,trivial⟩,trivial⟩) (D0.lenA _) (a1' rfl (pA' rfl ?_)))))))))))))
  refine a1' rfl (a0' rfl (a1' rfl (AG.qe hC rfl (fun hg=>⟨⟨hg,trivial⟩,trivial⟩) (C0.lenA _) (a1' rfl (pA' rfl (po' rfl (an' (g' [0] (X0 hx12) rfl rfl rfl rfl rfl rfl (n' (S' (p' 2 rfl (qe' rfl trivial (D0.lenA _) (e' rfl ?_)))))))))))))
  exact bk' (fw' (ih3 _ _ _ _ _ _ hh) rfl rfl rfl)
 ·intro g3 g4 ih3 ih4 l o01 x1 v152 v109 res hh
  refine Y0.unroll (t' rfl (S' (ci' rfl hh (fun hh=>?_) (fun hh=>?_))))
  ·obtain ⟨x13,hx13,hh⟩:=bs' hh
   obtain ⟨x14,hx14,hh⟩:=bs' hh
   refine sk' (S' (bk' (s' rfl rfl (i' rfl (S0 hx13) (D0.idx hx13) rfl (q' rfl (K0.nf hC rfl (K0.s hC rfl (n' (AEx.regionG 9 rfl (G' 6 rfl (a1' rfl (a1' rfl (pa' rfl ?_)))))))))))))
   exact an' (g' [0] (X0 hx14) rfl rfl rfl rfl rfl rfl (n' (T' rfl (lw' (ih3 _ _ _ _ _ _ hh) rfl rfl rfl))))
  exact ex' (S' (p' 2 rfl (qe' rfl trivial (D0.lenA _) (e' rfl (bk' (fw' (ih4 _ _ _ _ _ _ hh) rfl rfl rfl))))))
 ·intro g0 g1 g4 ih0 ih1 ih4 l o02 x1 v153 v127 res hh
  refine Y0.unroll (t' rfl (S' (ci' rfl hh (fun hh=>?_) (fun hh=>?_))))
  ·obtain ⟨x15,hx15,hh⟩:=bs' hh
   obtain ⟨x16,hx16,hh⟩:=bs' hh
   exact sk' (S' (bk' (s' rfl rfl (i' rfl (S0 hx15) (D0.idx hx15) rfl (q' rfl (K0.nf hC rfl (K0.s hC rfl (n' (P' 4 rfl (g' [0] (X0 hx16) rfl rfl rfl rfl rfl rfl (n' (T' rfl (lw' (ih4 _ _ _ _ _ _ hh) rfl rfl rfl)))))))))))))
  obtain ⟨x17,hx17,hh⟩:=bs' hh
  obtain ⟨x18,hx18,hh⟩:=bs' hh
  obtain ⟨x19,hx19,hh⟩:=bs' hh
  exact ex' (p' 3 rfl (g' [0] (ih0 _ _ _ hx17) rfl rfl rfl rfl rfl rfl (n' (p' 3 rfl (g' [0] (ih0 _ _ _ hx18) rfl rfl rfl rfl rfl rfl (n' (P' 3 rfl (g' [0] (Qp hx19) rfl rfl rfl rfl rfl rfl (n' (T' rfl (lw' (ih1 _ _ _ _ hh) rfl rfl rfl)))))))))))
theorem R11 {l syntaxReport res}(hh:L3 l syntaxReport=some res):Ar l syntaxReport res:=(F10).1 _ _ _ hh
def Ec (p:O0):Option J0:=
 L3 p.Decls (J0.mk 0 0 false false false)>>=fun x1=>
 J2 p.Body 1 x1>>=fun x2=>
 some x2
theorem Cw {p res}(hh:Ec p=some res):N0 C 88 [.agg (O0.cells p)] [] (Ret [.dead,.row (J0.cells res) 142] (.ref 1 0)):=by
 unfold Ec at hh
 obtain ⟨x1,hx1,hh⟩:=bs' hh
 obtain ⟨x2,hx2,hh⟩:=bs' hh
 refine N0.intro hC Tryz.func88 rfl rfl rfl (s' rfl rfl (K0.n hC rfl (e' rfl (p' 1 rfl (K0.n hC rfl (e' rfl (p' 3 rfl (g' [1] (R11 hx1) rfl rfl rfl rfl rfl rfl (n' (p' 3 rfl (g' [1] (Qp hx2) rfl rfl rfl rfl rfl rfl (n' (t' rfl ?_)))))))))))))
 refine re' ?_
 obtain rfl:=oi' hh
 exact ⟨_,_,[.dead,.row (J0.cells x2) 142],rfl,.rfl,⟨trivial,⟨rfl,.refl _,rfl⟩,trivial⟩,rfl,rfl,rfl,rfl⟩
def Gh (p:O0):Option Int:=
 Ec p>>=fun x1=>
 L4 x1>>=fun x2=>
 some x2
theorem Z10 {p res}(hh:Gh p=some res):N0 C 43 [.agg (O0.cells p)] [] (Ret [] (.d (.int .i64 res))):=by
 unfold Gh at hh
 obtain ⟨x1,hx1,hh⟩:=bs' hh
 obtain ⟨x2,hx2,hh⟩:=bs' hh
 cases hh
 exact N0.intro hC Tryz.func43 rfl rfl rfl (s' rfl rfl (K0.n hC rfl (e' rfl (p' 1 rfl (g' [] (Cw hx1) rfl rfl rfl rfl rfl rfl (g' [2] (Wl hx2) rfl rfl rfl rfl rfl rfl (e' rfl (re' (rt' rfl rfl rfl)))))))))
mutual
def W3 (t:F0)(b:Str):Option Str:=
 if (t.Kind == 0)=true then
  I0 [98,111,111,108] b>>=fun x1=>
  some x1.2
 else
  if (t.Kind == 1)=true then
   Rl t.Low>>=fun x2=>
   if (decide (4+x2.length≤maxLen))=true then
    if (decide (([105,110,116,91]++x2).length+2≤maxLen))=true then
     Rl t.High>>=fun x3=>
     if (decide ((([105,110,116,91]++x2)++[46,46]).length+x3.length≤maxLen))=true then
      if (decide (((([105,110,116,91]++x2)++[46,46])++x3).length+1≤maxLen))=true then
       I0 (((([105,110,116,91]++x2)++[46,46])++x3)++[93]) b>>=fun x4=>
       some x4.2
      else none
     else none
    else none
   else none
  else
   if (t.Kind == 2)=true then
    Rl t.Size>>=fun x5=>
    if (decide (6+x5.length≤maxLen))=true then
     if (decide (([97,114,114,97,121,32]++x5).length+4≤maxLen))=true then
      I0 (([97,114,114,97,121,32]++x5)++[32,111,102,32]) b>>=fun x6=>
      idx t.Of 0>>=fun x7=>
      W3 x7 x6.2>>=fun x14=>
      some x14
     else none
    else none
   else
    if (t.Kind == 3)=true then
     I0 [114,101,99,111,114,100,32,123] b>>=fun x8=>
     Fc t x8.2 0
    else
     if (t.Kind == 4)=true then
      I0 t.Name b>>=fun x9=>
      some x9.2
     else
      some b
 partial_fixpoint
def Fc (t:F0)(b1:Str)(v56:Int):Option Str:=
 if (decide (v56 < ((t.Of).length:Int)))=true then
  idx t.Of v56>>=fun x10=>
  if (decide (v56 > 0))=true then
   I0 [44,32] b1>>=fun x16=>
   Gc t x16.2 x10 v56 v56
  else
   Gc t b1 x10 v56 v56
 else
  I0 [125] b1>>=fun x13=>
  some x13.2
 partial_fixpoint
def Gc (t:F0)(b11:Str)(x10:F0)(i:Int)(v561:Int):Option Str:=
 idx t.Names i>>=fun x11=>
 if (decide (x11.length+2≤maxLen))=true then
  I0 (x11++[58,32]) b11>>=fun x12=>
  W3 x10 x12.2>>=fun x15=>
  Fc t x15 (IntKind.i64.wrap (v561+1))
 else none
 partial_fixpoint
end
abbrev Nr (t:F0)(b:Str)(res:Str):Prop:=N0 C 164 [.ref 0 0,.agg (F0.cells t)] [.bld 1 129,.buf 5 b] (Ret [.bld 1 129,.buf 5 res] (.tup []))
abbrev G10 (t:F0)(b1:Str)(v56:Int)(res:Str):Prop:=LM C 93 2 Tryz.f164 [1,1,4,1,3,1,3,1,3,1,2,1,0,1,4] [(0,.ref 0 0),(3,.ref 2 0),(54,.d (.sl (F0.rows t.Of))),(55,.d (.int .i64 ((t.Of).length:Int))),(56,.d (.int .i64 v56))] [.bld 1 129,.buf 5 b1,.row (F0.cells t) 48] (Ret [.bld 1 129,.buf 5 res] (.tup []))
abbrev H10 (t:F0)(b11:Str)(x10:F0)(i:Int)(v561:Int)(res:Str):Prop:=JM C 93 2 Tryz.f164 [1,1,4,1,3,1,3,1,3,1,2,1,0,1,4,5,1,1,0,4,1,1] [(0,.ref 0 0),(3,.ref 2 0),(4,.d (.int .i64 i)),(5,.ref 3 0),(54,.d (.sl (F0.rows t.Of))),(55,.d (.int .i64 ((t.Of).length:Int))),(56,.d (.int .i64 v561))] [.bld 1 129,.buf 5 b11,.row (F0.cells t) 48,.row (F0.cells x10) 48] (Ret [.bld 1 129,.buf 5 res] (.tup []))
theorem S11:(∀ t b res,W3 t b=some res→Nr t b res)∧(∀ t b1 v56 res,Fc t b1 v56=some res→G10 t b1 v56 res)∧(∀ t b11 x10 i v561 res,Gc t b11 x10 i v561=some res→H10 t b11 x10 i v561 res):=by
 refine W3.mutual_partial_correctness _ _ _ ?_ ?_ ?_
 ·intro g0 g1 ih0 ih1 t b res hh
  refine N0.intro hC Tryz.func164 rfl rfl rfl (s' rfl rfl (K0.n hC rfl (n' (t' rfl (bk' (t' rfl (ci' rfl hh (fun hh=>?_) (fun hh=>?_))))))))
  ·obtain ⟨x1,hx1,hh⟩:=bs' hh
   cases hh
   exact P' 3 rfl (g' [0,1] (L0 hx1) rfl rfl rfl rfl rfl rfl (n' (rn' rfl rfl rfl)))
  refine t' rfl (ci' rfl hh (fun hh=>?_) (fun hh=>?_))
  ·obtain ⟨x2,hx2,hh⟩:=bs' hh
   obtain ⟨c56,hh⟩:=U0 hh
   obtain ⟨c57,hh⟩:=U0 hh
   obtain ⟨x3,hx3,hh⟩:=bs' hh
   obtain ⟨c58,hh⟩:=U0 hh
   obtain ⟨c59,hh⟩:=U0 hh
   obtain ⟨x4,hx4,hh⟩:=bs' hh
   cases hh
   exact AEx.draw hC 13 rfl rfl rfl (O' 5 rfl (Qc' (Cj hx2) rfl rfl (AQ.q hC rfl c56 (AQ.q hC rfl c57 (O' 2 rfl (Qc' (Cj hx3) rfl rfl (AQ.q hC rfl c58 (AQ.q hC rfl c59 (Qn' (g' [0,1] (L0 hx4) rfl rfl rfl rfl rfl rfl (n' (rn' rfl rfl rfl))))))))))))
  refine t' rfl (ci' rfl hh (fun hh=>?_) (fun hh=>?_))
  ·obtain ⟨x5,hx5,hh⟩:=bs' hh
   obtain ⟨c60,hh⟩:=U0 hh
   obtain ⟨c61,hh⟩:=U0 hh
   obtain ⟨x6,hx6,hh⟩:=bs' hh
   obtain ⟨x7,hx7,hh⟩:=bs' hh
   obtain ⟨x14,hx14,hh⟩:=bs' hh
   cases hh
   exact S' (AEx.draw hC 8 rfl rfl rfl (O' 5 rfl (Qc' (Cj hx5) rfl rfl (AQ.q hC rfl c60 (AQ.q hC rfl c61 (Qn' (g' [0,1] (L0 hx6) rfl rfl rfl rfl rfl rfl (n' (P' 3 rfl (i' rfl (S0 hx7) (F0.idx hx7) rfl (q' rfl (g' [0,1] (ih0 _ _ _ hx14) rfl rfl rfl rfl rfl rfl (n' (rn' rfl rfl rfl))))))))))))))
  refine t' rfl (ci' rfl hh (fun hh=>?_) (fun hh=>?_))
  ·obtain ⟨x8,hx8,hh⟩:=bs' hh
   exact p' 3 rfl (g' [0,1] (L0 hx8) rfl rfl rfl rfl rfl rfl (n' (S' (p' 2 rfl (qe' rfl trivial (F0.lenA _) (e' rfl (bk' (fw' (ih1 _ _ _ _ hh) rfl rfl rfl))))))))
  refine t' rfl (ci' rfl hh (fun hh=>?_) (fun hh=>?_))
  ·obtain ⟨x9,hx9,hh⟩:=bs' hh
   cases hh
   exact AEx.draw hC 5 rfl rfl rfl (E' rfl (g' [0,1] (L0 hx9) rfl rfl rfl rfl rfl rfl (n' (rn' rfl rfl rfl))))
  cases hh
  exact sk' (rn' rfl rfl rfl)
 ·intro g2 ih2 t b1 v56 res hh
  refine Y0.unroll (t' rfl (S' (ci' rfl hh (fun hh=>?_) (fun hh=>?_))))
  ·obtain ⟨x10,hx10,hh⟩:=bs' hh
   refine sk' (S' (bk' (p' 1 rfl (i' rfl (S0 hx10) (F0.idx hx10) rfl (q' rfl (K0.nf hC rfl (q' rfl (K0.s hC rfl (n' (S' (t' rfl (ci' rfl hh (fun hh=>?_) (fun hh=>?_)))))))))))))
   ·obtain ⟨x16,hx16,hh⟩:=bs' hh
    exact P' 3 rfl (g' [0,1] (L0 hx16) rfl rfl rfl rfl rfl rfl (n' (ew' (ih2 _ _ _ _ _ _ hh) rfl rfl rfl)))
   exact sk' (ew' (ih2 _ _ _ _ _ _ hh) rfl rfl rfl)
  obtain ⟨x13,hx13,hh⟩:=bs' hh
  cases hh
  exact ex' (P' 3 rfl (g' [0,1] (L0 hx13) rfl rfl rfl rfl rfl rfl (n' (rn' rfl rfl rfl))))
 ·intro g0 g1 ih0 ih1 t b11 x10 i v561 res hh
  obtain ⟨x11,hx11,hh⟩:=bs' hh
  obtain ⟨c62,hh⟩:=U0 hh
  obtain ⟨x12,hx12,hh⟩:=bs' hh
  obtain ⟨x15,hx15,hh⟩:=bs' hh
  exact S' (AEx.draw hC 9 rfl rfl rfl (O' 6 rfl (AQ.i hC rfl (S0 hx11) (estr.idx hx11) rfl (Q' rfl (AQ.q hC rfl c62 (Qn' (g' [0,1] (L0 hx12) rfl rfl rfl rfl rfl rfl (n' (P' 2 rfl (g' [0,1] (ih0 _ _ _ hx15) rfl rfl rfl rfl rfl rfl (n' (T' rfl (lw' (ih1 _ _ _ _ hh) rfl rfl rfl)))))))))))))
theorem Yl {t b res}(hh:W3 t b=some res):Nr t b res:=(S11).1 _ _ _ hh
end Go.Proofs.YtbmlpamppbcdeaaGreatDoor

set_option maxRecDepth 100000
set_option maxHeartbeats 4000000
set_option synthInstance.maxSize 20000
set_option linter.unusedVariables false
namespace Go.Proofs.YtbmlpamppbcdeaaGreatDoor
open Go.Am
def S3 (name:Str)(t:F0)(b:Str):Option Str:=
 if (decide (name.length+2≤maxLen))=true then
  I0 (name++[58,32]) b>>=fun x1=>
  W3 t x1.2>>=fun x2=>
  some x2
 else none
theorem B7 {name t b res}(hh:S3 name t b=some res):N0 C 165 [.ref 0 0,.d (.str name),.agg (F0.cells t)] [.bld 1 129,.buf 5 b] (Ret [.bld 1 129,.buf 5 res] (.tup [])):=by
 unfold S3 at hh
 obtain ⟨c5,hh⟩:=U0 hh
 obtain ⟨x1,hx1,hh⟩:=bs' hh
 obtain ⟨x2,hx2,hh⟩:=bs' hh
 cases hh
 exact N0.intro hC Tryz.func165 rfl rfl rfl (s' rfl rfl (K0.n hC rfl (n' (p' 4 rfl (qc' rfl c5 (g' [0,1] (L0 hx1) rfl rfl rfl rfl rfl rfl (n' (P' 2 rfl (g' [0,1] (Yl hx2) rfl rfl rfl rfl rfl rfl (n' (rn' rfl rfl rfl)))))))))))
def K5 (x2:Str)(value:Str):Option Str:=
 if (decide (3+value.length≤maxLen))=true then
  I0 ([32,61,32]++value) x2>>=fun x4=>
  I0 [59,10] x4.2>>=fun x5=>
  some x5.2
 else none
theorem Bl {x2 value res}(hh:K5 x2 value=some res):JM C 35 2 Tryz.f162 [1,1,1,0,1,2,1,1] [(0,.ref 0 0),(4,.d (.str value))] [.bld 1 129,.buf 5 x2] (Ret [.bld 1 129,.buf 5 res] (.tup [])):=by
 unfold K5 at hh
 obtain ⟨c6,hh⟩:=U0 hh
 obtain ⟨x4,hx4,hh⟩:=bs' hh
 obtain ⟨x5,hx5,hh⟩:=bs' hh
 cases hh
 exact P' 4 rfl (qc' rfl c6 (g' [0,1] (L0 hx4) rfl rfl rfl rfl rfl rfl (n' (P' 3 rfl (g' [0,1] (L0 hx5) rfl rfl rfl rfl rfl rfl (n' (rn' rfl rfl rfl)))))))
def C7 (d:D0)(b:Str):Option Str:=
 I0 [118,97,114,32] b>>=fun x1=>
 S3 d.Name d.TypeV x1.2>>=fun x2=>
 if (d.Init != 0)=true then
  Rl d.Init>>=fun x3=>
  if (d.TypeV.Kind == 0)=true then
   K5 x2 [116,114,117,101]
  else
   K5 x2 x3
 else
  I0 [59,10] x2>>=fun x5=>
  some x5.2
theorem Bn {d b res}(hh:C7 d b=some res):N0 C 162 [.ref 0 0,.agg (D0.cells d)] [.bld 1 129,.buf 5 b] (Ret [.bld 1 129,.buf 5 res] (.tup [])):=by
 unfold C7 at hh
 obtain ⟨x1,hx1,hh⟩:=bs' hh
 obtain ⟨x2,hx2,hh⟩:=bs' hh
 refine N0.intro hC Tryz.func162 rfl rfl rfl (s' rfl rfl (K0.n hC rfl (n' (p' 3 rfl (g' [0,1] (L0 hx1) rfl rfl rfl rfl rfl rfl (n' (p' 5 rfl (g' [0,1] (B7 hx2) rfl rfl rfl rfl rfl rfl (n' (S' (t' rfl (ci' rfl hh (fun hh=>?_) (fun hh=>?_)))))))))))))
 ·obtain ⟨x3,hx3,hh⟩:=bs' hh
  refine p' 2 rfl (c' (Cj hx3) rfl rfl (e' rfl (S' (t' rfl (ci' rfl hh (fun hh=>?_) (fun hh=>?_))))))
  ·exact T' rfl (ew' (Bl hh) rfl rfl rfl)
  exact sk' (ew' (Bl hh) rfl rfl rfl)
 obtain ⟨x5,hx5,hh⟩:=bs' hh
 cases hh
 exact sk' (P' 3 rfl (g' [0,1] (L0 hx5) rfl rfl rfl rfl rfl rfl (n' (rn' rfl rfl rfl))))
mutual
def R4 (s:C0)(b1:Str)(v163:Int):Option Str:=
 if (decide (v163 < ((s.Numbers).length:Int)))=true then
  idx s.Numbers v163>>=fun x25=>
  if (decide (v163 > 0))=true then
   I0 [44,32] b1>>=fun x28=>
   Lb s x28.2 x25 v163
  else
   Lb s b1 x25 v163
 else
  I0 [59] b1>>=fun x13=>
  some x13.2
 partial_fixpoint
def Lb (s:C0)(b11:Str)(x25:Int)(v1631:Int):Option Str:=
 Rl x25>>=fun x26=>
 I0 x26 b11>>=fun x27=>
 R4 s x27.2 (IntKind.i64.wrap (v1631+1))
 partial_fixpoint
end
abbrev Ao (s:C0)(b1:Str)(v163:Int)(res:Str):Prop:=LM C 185 2 Tryz.f167 [1,0,1,4,1,3,1,3,1,3,1,3,1,3,1,3,1,3,1,3,1,2,1,1,4] [(0,.ref 0 0),(161,.d (.sl (ei64.rows s.Numbers))),(162,.d (.int .i64 ((s.Numbers).length:Int))),(163,.d (.int .i64 v163))] [.bld 1 129,.buf 5 b1] (Ret [.bld 1 129,.buf 5 res] (.tup []))
abbrev Xy (s:C0)(b11:Str)(x25:Int)(v1631:Int)(res:Str):Prop:=JM C 185 2 Tryz.f167 [1,0,1,4,1,3,1,3,1,3,1,3,1,3,1,3,1,3,1,3,1,2,1,1,4,5,1,1,0,4,1,1] [(0,.ref 0 0),(7,.d (.int .i64 x25)),(161,.d (.sl (ei64.rows s.Numbers))),(162,.d (.int .i64 ((s.Numbers).length:Int))),(163,.d (.int .i64 v1631))] [.bld 1 129,.buf 5 b11] (Ret [.bld 1 129,.buf 5 res] (.tup []))
theorem Sv (s:C0):(∀ b1 v163 res,R4 s b1 v163=some res→Ao s b1 v163 res)∧(∀ b11 x25 v1631 res,Lb s b11 x25 v1631=some res→Xy s b11 x25 v1631 res):=by
 refine R4.mutual_partial_correctness s _ _ ?_ ?_
 ·intro g1 ih1 b1 v163 res hh
  refine Y0.unroll (t' rfl (S' (ci' rfl hh (fun hh=>?_) (fun hh=>?_))))
  ·obtain ⟨x25,hx25,hh⟩:=bs' hh
   refine sk' (S' (bk' (p' 1 rfl (i' rfl (S0 hx25) (ei64.idx hx25) rfl (e' rfl (S' (t' rfl (ci' rfl hh (fun hh=>?_) (fun hh=>?_)))))))))
   ·obtain ⟨x28,hx28,hh⟩:=bs' hh
    exact P' 3 rfl (g' [0,1] (L0 hx28) rfl rfl rfl rfl rfl rfl (n' (ew' (ih1 _ _ _ _ hh) rfl rfl rfl)))
   exact sk' (ew' (ih1 _ _ _ _ hh) rfl rfl rfl)
  obtain ⟨x13,hx13,hh⟩:=bs' hh
  cases hh
  exact ex' (P' 3 rfl (g' [0,1] (L0 hx13) rfl rfl rfl rfl rfl rfl (n' (rn' rfl rfl rfl))))
 ·intro g0 ih0 b11 x25 v1631 res hh
  obtain ⟨x26,hx26,hh⟩:=bs' hh
  obtain ⟨x27,hx27,hh⟩:=bs' hh
  exact AEx.draw hC 5 rfl rfl rfl (O' 4 rfl (Qc' (Cj hx26) rfl rfl (Qn' (g' [0,1] (L0 hx27) rfl rfl rfl rfl rfl rfl (n' (T' rfl (lw' (ih0 _ _ _ hh) rfl rfl rfl)))))))
theorem Dx {s b1 v163 res}(hh:R4 s b1 v163=some res):Ao s b1 v163 res:=(Sv s).1 _ _ _ hh
mutual
def K4 (l:List C0)(margin:Str)(b:Str):Option Str:=
 Ga l margin b 0
 partial_fixpoint
def Ga (l:List C0)(margin:Str)(b1:Str)(v10:Int):Option Str:=
 if (decide (v10 < ((l).length:Int)))=true then
  idx l v10>>=fun x1=>
  I0 margin b1>>=fun x2=>
  Oj x1 margin x2.2>>=fun x3=>
  I0 [10] x3>>=fun x4=>
  Ga l margin x4.2 (IntKind.i64.wrap (v10+1))
 else
  some b1
 partial_fixpoint
def Oj (s:C0)(margin:Str)(b:Str):Option Str:=
 if (s.Verb == 5)=true then
  I0 [105,102,32] b>>=fun x1=>
  C1 s.Value x1.2>>=fun x2=>
  K7 s.Then margin x2>>=fun x29=>
  if (decide (((s.Else).length:Int) > 0))=true then
   I0 [32,101,108,115,101] x29>>=fun x30=>
   K7 s.Else margin x30.2>>=fun x31=>
   some x31
  else
   some x29
 else
  if (s.Verb == 6)=true then
   I0 [119,104,105,108,101,32] b>>=fun x3=>
   C1 s.Value x3.2>>=fun x4=>
   Rl s.NV>>=fun x5=>
   if (decide (7+x5.length≤maxLen))=true then
    I0 ([32,108,105,109,105,116,32]++x5) x4>>=fun x6=>
    K7 s.Then margin x6.2>>=fun x32=>
    some x32
   else none
  else
   if (s.Verb == 7)=true then
    if (decide (4+s.Name.length≤maxLen))=true then
     if (decide (([102,111,114,32]++s.Name).length+3≤maxLen))=true then
      Rl s.Low>>=fun x7=>
      if (decide ((([102,111,114,32]++s.Name)++[32,61,32]).length+x7.length≤maxLen))=true then
       if (decide (((([102,111,114,32]++s.Name)++[32,61,32])++x7).length+4≤maxLen))=true then
        Rl s.High>>=fun x8=>
        if (decide ((((([102,111,114,32]++s.Name)++[32,61,32])++x7)++[32,116,111,32]).length+x8.length≤maxLen))=true then
         I0 ((((([102,111,114,32]++s.Name)++[32,61,32])++x7)++[32,116,111,32])++x8) b>>=fun x9=>
         K7 s.Then margin x9.2>>=fun x33=>
         some x33
        else none
       else none
      else none
     else none
    else none
   else
    if (s.Verb == 0)=true then
     C1 s.Place b>>=fun x10=>
     I0 [32,61,32] x10>>=fun x11=>
     C1 s.Value x11.2>>=fun x12=>
     I0 [59] x12>>=fun x13=>
     some x13.2
    else
     if (s.Verb == 1)=true then
      C1 s.Place b>>=fun x14=>
      if (decide (8+s.Name.length≤maxLen))=true then
       if (decide (([32,61,32,99,97,108,108,32]++s.Name).length+1≤maxLen))=true then
        I0 (([32,61,32,99,97,108,108,32]++s.Name)++[40]) x14>>=fun x15=>
        K8 s.Args x15.2>>=fun x16=>
        I0 [41] x16>>=fun x17=>
        I0 [59] x17.2>>=fun x13=>
        some x13.2
       else none
      else none
     else
      if (s.Verb == 2)=true then
       C1 s.Place b>>=fun x18=>
       if (decide (11+s.Name.length≤maxLen))=true then
        I0 ([32,61,32,114,101,108,101,97,115,101,32]++s.Name) x18>>=fun x19=>
        I0 [59] x19.2>>=fun x13=>
        some x13.2
       else none
      else
       if (s.Verb == 3)=true then
        I0 [111,117,116,112,117,116,32] b>>=fun x20=>
        C1 s.Value x20.2>>=fun x21=>
        I0 [59] x21>>=fun x13=>
        some x13.2
       else
        if (s.Verb == 4)=true then
         Rl s.NV>>=fun x22=>
         if (decide (5+x22.length≤maxLen))=true then
          I0 ([119,97,105,116,32]++x22) b>>=fun x23=>
          I0 [59] x23.2>>=fun x13=>
          some x13.2
         else none
        else
         if (s.Verb == 8)=true then
          I0 [115,101,116,116,108,101,32] b>>=fun x24=>
          R4 s x24.2 0
         else
          I0 [59] b>>=fun x13=>
          some x13.2
 partial_fixpoint
def K7 (l:List C0)(margin:Str)(b:Str):Option Str:=
 I0 [32,123,10] b>>=fun x1=>
 if (decide (margin.length+1≤maxLen))=true then
  K4 l (margin++[9]) x1.2>>=fun x2=>
  if (decide (margin.length+1≤maxLen))=true then
   I0 (margin++[125]) x2>>=fun x3=>
   some x3.2
  else none
 else none
 partial_fixpoint
end
abbrev Rp (l:List C0)(margin:Str)(b:Str)(res:Str):Prop:=N0 C 87 [.ref 0 0,.d (.sl (C0.rows l)),.d (.str margin)] [.bld 1 129,.buf 5 b] (Ret [.bld 1 129,.buf 5 res] (.tup []))
abbrev Gx (l:List C0)(margin:Str)(b1:Str)(v10:Int)(res:Str):Prop:=LM C 28 2 Tryz.f87 [1,4] [(0,.ref 0 0),(2,.d (.str margin)),(8,.d (.sl (C0.rows l))),(9,.d (.int .i64 ((l).length:Int))),(10,.d (.int .i64 v10))] [.bld 1 129,.buf 5 b1] (Ret [.bld 1 129,.buf 5 res] (.tup []))
abbrev A13 (s:C0)(margin:Str)(b:Str)(res:Str):Prop:=N0 C 167 [.ref 0 0,.agg (C0.cells s),.d (.str margin)] [.bld 1 129,.buf 5 b] (Ret [.bld 1 129,.buf 5 res] (.tup []))
abbrev T11 (l:List C0)(margin:Str)(b:Str)(res:Str):Prop:=N0 C 226 [.ref 0 0,.d (.sl (C0.rows l)),.d (.str margin)] [.bld 1 129,.buf 5 b] (Ret [.bld 1 129,.buf 5 res] (.tup []))
theorem Yy:(∀ l margin b res,K4 l margin b=some res→Rp l margin b res)∧(∀ l margin b1 v10 res,Ga l margin b1 v10=some res→Gx l margin b1 v10 res)∧(∀ s margin b res,Oj s margin b=some res→A13 s margin b res)∧(∀ l margin b res,K7 l margin b=some res→T11 l margin b res):=by
 refine K4.mutual_partial_correctness _ _ _ _ ?_ ?_ ?_ ?_
 ·intro g1 ih1 l margin b res hh
  exact N0.intro hC Tryz.func87 rfl rfl rfl (p' 1 rfl (qe' rfl trivial (C0.lenA _) (e' rfl (bk' (fw' (ih1 _ _ _ _ _ hh) rfl rfl rfl)))))
 ·intro g1 g2 ih1 ih2 l margin b1 v10 res hh
  refine Y0.unroll (t' rfl (S' (ci' rfl hh (fun hh=>?_) (fun hh=>?_))))
  ·obtain ⟨x1,hx1,hh⟩:=bs' hh
   obtain ⟨x2,hx2,hh⟩:=bs' hh
   obtain ⟨x3,hx3,hh⟩:=bs' hh
   obtain ⟨x4,hx4,hh⟩:=bs' hh
   refine sk' (S' (bk' (s' rfl rfl (i' rfl (S0 hx1) (C0.idx hx1) rfl (q' rfl (K0.nf hC rfl (K0.s hC rfl (n' (p' 4 rfl (g' [0,1] (L0 hx2) rfl rfl rfl rfl rfl rfl (n' (p' 3 rfl (g' [0,1] (ih2 _ _ _ _ hx3) rfl rfl rfl rfl rfl rfl ?_)))))))))))))
   exact n' (P' 3 rfl (g' [0,1] (L0 hx4) rfl rfl rfl rfl rfl rfl (n' (T' rfl (lw' (ih1 _ _ _ _ _ hh) rfl rfl rfl)))))
  cases hh
  exact ex' (rn' rfl rfl rfl)
 ·intro g3 ih3 s margin b res hh
  refine N0.intro hC Tryz.func167 rfl rfl rfl (s' rfl rfl (K0.n hC rfl (n' (S' (t' rfl (bk' (t' rfl (ci' rfl hh (fun hh=>?_) (fun hh=>?_)))))))))
  ·obtain ⟨x1,hx1,hh⟩:=bs' hh
   obtain ⟨x2,hx2,hh⟩:=bs' hh
   obtain ⟨x29,hx29,hh⟩:=bs' hh
   refine p' 3 rfl (g' [0,1] (L0 hx1) rfl rfl rfl rfl rfl rfl (n' (p' 3 rfl (g' [0,1] (Z2 hx2) rfl rfl rfl rfl rfl rfl (n' (p' 4 rfl (g' [0,1] (ih3 _ _ _ _ hx29) rfl rfl rfl rfl rfl rfl (n' (S' (p' 2 rfl (qe' rfl trivial (C0.lenA _) (e' rfl (ci' rfl hh (fun hh=>?_) (fun hh=>?_))))))))))))))
   ·obtain ⟨x30,hx30,hh⟩:=bs' hh
    obtain ⟨x31,hx31,hh⟩:=bs' hh
    cases hh
    exact p' 3 rfl (g' [0,1] (L0 hx30) rfl rfl rfl rfl rfl rfl (n' (P' 4 rfl (g' [0,1] (ih3 _ _ _ _ hx31) rfl rfl rfl rfl rfl rfl (n' (re' (rt' rfl rfl rfl)))))))
   cases hh
   exact sk' (re' (rt' rfl rfl rfl))
  refine t' rfl (ci' rfl hh (fun hh=>?_) (fun hh=>?_))
  ·obtain ⟨x3,hx3,hh⟩:=bs' hh
   obtain ⟨x4,hx4,hh⟩:=bs' hh
   obtain ⟨x5,hx5,hh⟩:=bs' hh
   obtain ⟨c81,hh⟩:=U0 hh
   obtain ⟨x6,hx6,hh⟩:=bs' hh
   obtain ⟨x32,hx32,hh⟩:=bs' hh
   cases hh
   refine p' 3 rfl (g' [0,1] (L0 hx3) rfl rfl rfl rfl rfl rfl (n' (p' 3 rfl (g' [0,1] (Z2 hx4) rfl rfl rfl rfl rfl rfl (n' (S' (AEx.draw hC 7 rfl rfl rfl (O' 5 rfl (Qc' (Cj hx5) rfl rfl (AQ.q hC rfl c81 (Qn' (g' [0,1] (L0 hx6) rfl rfl rfl rfl rfl rfl (n' ?_)))))))))))))
   exact p' 4 rfl (g' [0,1] (ih3 _ _ _ _ hx32) rfl rfl rfl rfl rfl rfl (n' (re' (rt' rfl rfl rfl))))
  refine t' rfl (ci' rfl hh (fun hh=>?_) (fun hh=>?_))
  ·obtain ⟨c82,hh⟩:=U0 hh
   obtain ⟨c83,hh⟩:=U0 hh
   obtain ⟨x7,hx7,hh⟩:=bs' hh
   obtain ⟨c84,hh⟩:=U0 hh
   obtain ⟨c85,hh⟩:=U0 hh
   obtain ⟨x8,hx8,hh⟩:=bs' hh
   obtain ⟨c86,hh⟩:=U0 hh
   obtain ⟨x9,hx9,hh⟩:=bs' hh
   obtain ⟨x33,hx33,hh⟩:=bs' hh
   cases hh
   refine S' (AEx.draw hC 16 rfl rfl rfl (O' 5 rfl (AQ.q hC rfl c82 (AQ.q hC rfl c83 (O' 2 rfl (Qc' (Cj hx7) rfl rfl (AQ.q hC rfl c84 (AQ.q hC rfl c85 (O' 2 rfl (Qc' (Cj hx8) rfl rfl (AQ.q hC rfl c86 (Qn' (g' [0,1] (L0 hx9) rfl rfl rfl rfl rfl rfl ?_)))))))))))))
   exact n' (p' 4 rfl (g' [0,1] (ih3 _ _ _ _ hx33) rfl rfl rfl rfl rfl rfl (n' (re' (rt' rfl rfl rfl)))))
  refine t' rfl (ci' rfl hh (fun hh=>?_) (fun hh=>?_))
  ·obtain ⟨x10,hx10,hh⟩:=bs' hh
   obtain ⟨x11,hx11,hh⟩:=bs' hh
   obtain ⟨x12,hx12,hh⟩:=bs' hh
   obtain ⟨x13,hx13,hh⟩:=bs' hh
   cases hh
   exact p' 3 rfl (g' [0,1] (Z2 hx10) rfl rfl rfl rfl rfl rfl (n' (p' 3 rfl (g' [0,1] (L0 hx11) rfl rfl rfl rfl rfl rfl (n' (P' 3 rfl (g' [0,1] (Z2 hx12) rfl rfl rfl rfl rfl rfl (n' (P' 3 rfl (g' [0,1] (L0 hx13) rfl rfl rfl rfl rfl rfl (n' (rn' rfl rfl rfl))))))))))))
  refine t' rfl (ci' rfl hh (fun hh=>?_) (fun hh=>?_))
  ·obtain ⟨x14,hx14,hh⟩:=bs' hh
   obtain ⟨c87,hh⟩:=U0 hh
   obtain ⟨c88,hh⟩:=U0 hh
   obtain ⟨x15,hx15,hh⟩:=bs' hh
   obtain ⟨x16,hx16,hh⟩:=bs' hh
   obtain ⟨x17,hx17,hh⟩:=bs' hh
   obtain ⟨x13,hx13,hh⟩:=bs' hh
   cases hh
   refine p' 3 rfl (g' [0,1] (Z2 hx14) rfl rfl rfl rfl rfl rfl (n' (S' (AEx.draw hC 7 rfl rfl rfl (O' 5 rfl (AQ.q hC rfl c87 (AQ.q hC rfl c88 (Qn' (g' [0,1] (L0 hx15) rfl rfl rfl rfl rfl rfl (n' (p' 3 rfl (g' [0,1] (L11 hx16) rfl rfl rfl rfl rfl rfl (n' ?_)))))))))))))
   exact P' 3 rfl (g' [0,1] (L0 hx17) rfl rfl rfl rfl rfl rfl (n' (P' 3 rfl (g' [0,1] (L0 hx13) rfl rfl rfl rfl rfl rfl (n' (rn' rfl rfl rfl))))))
  refine t' rfl (ci' rfl hh (fun hh=>?_) (fun hh=>?_))
  ·obtain ⟨x18,hx18,hh⟩:=bs' hh
   obtain ⟨c89,hh⟩:=U0 hh
   obtain ⟨x19,hx19,hh⟩:=bs' hh
   obtain ⟨x13,hx13,hh⟩:=bs' hh
   cases hh
   exact p' 3 rfl (g' [0,1] (Z2 hx18) rfl rfl rfl rfl rfl rfl (n' (AEx.draw hC 6 rfl rfl rfl (O' 5 rfl (AQ.q hC rfl c89 (Qn' (g' [0,1] (L0 hx19) rfl rfl rfl rfl rfl rfl (n' (P' 3 rfl (g' [0,1] (L0 hx13) rfl rfl rfl rfl rfl rfl (n' (rn' rfl rfl rfl))))))))))))
  refine t' rfl (ci' rfl hh (fun hh=>?_) (fun hh=>?_))
  ·obtain ⟨x20,hx20,hh⟩:=bs' hh
   obtain ⟨x21,hx21,hh⟩:=bs' hh
   obtain ⟨x13,hx13,hh⟩:=bs' hh
   cases hh
   exact p' 3 rfl (g' [0,1] (L0 hx20) rfl rfl rfl rfl rfl rfl (n' (P' 3 rfl (g' [0,1] (Z2 hx21) rfl rfl rfl rfl rfl rfl (n' (P' 3 rfl (g' [0,1] (L0 hx13) rfl rfl rfl rfl rfl rfl (n' (rn' rfl rfl rfl)))))))))
  refine t' rfl (ci' rfl hh (fun hh=>?_) (fun hh=>?_))
  ·obtain ⟨x22,hx22,hh⟩:=bs' hh
   obtain ⟨c90,hh⟩:=U0 hh
   obtain ⟨x23,hx23,hh⟩:=bs' hh
   obtain ⟨x13,hx13,hh⟩:=bs' hh
   cases hh
   exact AEx.draw hC 7 rfl rfl rfl (O' 5 rfl (Qc' (Cj hx22) rfl rfl (AQ.q hC rfl c90 (Qn' (g' [0,1] (L0 hx23) rfl rfl rfl rfl rfl rfl (n' (P' 3 rfl (g' [0,1] (L0 hx13) rfl rfl rfl rfl rfl rfl (n' (rn' rfl rfl rfl))))))))))
  refine t' rfl (ci' rfl hh (fun hh=>?_) (fun hh=>?_))
  ·obtain ⟨x24,hx24,hh⟩:=bs' hh
   exact p' 3 rfl (g' [0,1] (L0 hx24) rfl rfl rfl rfl rfl rfl (n' (p' 2 rfl (qe' rfl trivial (ei64.lenA _) (e' rfl (bk' (fw' (Dx hh) rfl rfl rfl)))))))
  obtain ⟨x13,hx13,hh⟩:=bs' hh
  cases hh
  exact sk' (P' 3 rfl (g' [0,1] (L0 hx13) rfl rfl rfl rfl rfl rfl (n' (rn' rfl rfl rfl))))
 ·intro g0 ih0 l margin b res hh
  obtain ⟨x1,hx1,hh⟩:=bs' hh
  obtain ⟨c8,hh⟩:=U0 hh
  obtain ⟨x2,hx2,hh⟩:=bs' hh
  obtain ⟨c9,hh⟩:=U0 hh
  obtain ⟨x3,hx3,hh⟩:=bs' hh
  cases hh
  exact N0.intro hC Tryz.func226 rfl rfl rfl (p' 3 rfl (g' [0,1] (L0 hx1) rfl rfl rfl rfl rfl rfl (n' (p' 3 rfl (qc' rfl c8 (g' [0,1] (ih0 _ _ _ _ hx2) rfl rfl rfl rfl rfl rfl (n' (P' 4 rfl (qc' rfl c9 (g' [0,1] (L0 hx3) rfl rfl rfl rfl rfl rfl (n' (rn' rfl rfl rfl))))))))))))
theorem Yo {l margin b res}(hh:K4 l margin b=some res):Rp l margin b res:=(Yy).1 _ _ _ _ hh
def F3 (d:D0)(b12:Str)(v52:Int):Option Str:=
 if (decide (v52 < ((d.Vars).length:Int)))=true then
  idx d.Vars v52>>=fun x8=>
  I0 [9] b12>>=fun x9=>
  C7 x8 x9.2>>=fun x10=>
  F3 d x10 (IntKind.i64.wrap (v52+1))
 else
  K4 d.Body [9] b12>>=fun x11=>
  I0 [9,114,101,116,117,114,110,32] x11>>=fun x12=>
  C1 d.Value x12.2>>=fun x13=>
  I0 [59,10,125,10] x13>>=fun x14=>
  some x14.2
 partial_fixpoint
abbrev Zl (d:D0)(b12:Str)(v52:Int)(res:Str):Prop:=LM C 80 2 Tryz.f163 [1,1,1,1,1,1,0,1,4] [(0,.ref 0 0),(3,.ref 2 0),(50,.d (.sl (D0.rows d.Vars))),(51,.d (.int .i64 ((d.Vars).length:Int))),(52,.d (.int .i64 v52))] [.bld 1 129,.buf 5 b12,.row (D0.cells d) 75] (Ret [.bld 1 129,.buf 5 res] (.tup []))
theorem Pr (d:D0):(∀ b12 v52 res,F3 d b12 v52=some res→Zl d b12 v52 res):=by
 refine F3.partial_correctness d _ ?_
 ·intro g0 ih0 b12 v52 res hh
  refine Y0.unroll (t' rfl (S' (ci' rfl hh (fun hh=>?_) (fun hh=>?_))))
  ·obtain ⟨x8,hx8,hh⟩:=bs' hh
   obtain ⟨x9,hx9,hh⟩:=bs' hh
   obtain ⟨x10,hx10,hh⟩:=bs' hh
   refine sk' (S' (bk' (s' rfl rfl (i' rfl (S0 hx8) (D0.idx hx8) rfl (q' rfl (K0.nf hC rfl (K0.s hC rfl (n' (p' 3 rfl (g' [0,1] (L0 hx9) rfl rfl rfl rfl rfl rfl (n' (P' 2 rfl (g' [0,1] (Bn hx10) rfl rfl rfl rfl rfl rfl ?_)))))))))))))
   exact n' (T' rfl (lw' (ih0 _ _ _ hh) rfl rfl rfl))
  obtain ⟨x11,hx11,hh⟩:=bs' hh
  obtain ⟨x12,hx12,hh⟩:=bs' hh
  obtain ⟨x13,hx13,hh⟩:=bs' hh
  obtain ⟨x14,hx14,hh⟩:=bs' hh
  cases hh
  exact ex' (p' 3 rfl (g' [0,1] (Yo hx11) rfl rfl rfl rfl rfl rfl (n' (p' 3 rfl (g' [0,1] (L0 hx12) rfl rfl rfl rfl rfl rfl (n' (p' 3 rfl (g' [0,1] (Z2 hx13) rfl rfl rfl rfl rfl rfl (n' (P' 3 rfl (g' [0,1] (L0 hx14) rfl rfl rfl rfl rfl rfl (n' (rn' rfl rfl rfl)))))))))))))
theorem Ls {d b12 v52 res}(hh:F3 d b12 v52=some res):Zl d b12 v52 res:=(Pr d) _ _ _ hh
mutual
def G3 (d:D0)(b1:Str)(v19:Int):Option Str:=
 if (decide (v19 < ((d.Params).length:Int)))=true then
  idx d.Params v19>>=fun x2=>
  if (decide (v19 > 0))=true then
   I0 [44,32] b1>>=fun x4=>
   S7 d x4.2 x2 v19
  else
   S7 d b1 x2 v19
 else
  I0 [41,58,32] b1>>=fun x5=>
  W3 d.TypeV x5.2>>=fun x6=>
  I0 [32,123,10] x6>>=fun x7=>
  F3 d x7.2 0
 partial_fixpoint
def S7 (d:D0)(b11:Str)(x2:D0)(v191:Int):Option Str:=
 S3 x2.Name x2.TypeV b11>>=fun x3=>
 G3 d x3 (IntKind.i64.wrap (v191+1))
 partial_fixpoint
end
abbrev Bm (d:D0)(b1:Str)(v19:Int)(res:Str):Prop:=LM C 80 2 Tryz.f163 [1,1,0,1,4] [(0,.ref 0 0),(3,.ref 2 0),(17,.d (.sl (D0.rows d.Params))),(18,.d (.int .i64 ((d.Params).length:Int))),(19,.d (.int .i64 v19))] [.bld 1 129,.buf 5 b1,.row (D0.cells d) 75] (Ret [.bld 1 129,.buf 5 res] (.tup []))
abbrev Lt (d:D0)(b11:Str)(x2:D0)(v191:Int)(res:Str):Prop:=JM C 80 2 Tryz.f163 [1,1,0,1,4,5,1,1,0,4,1,1] [(0,.ref 0 0),(3,.ref 2 0),(5,.ref 3 0),(17,.d (.sl (D0.rows d.Params))),(18,.d (.int .i64 ((d.Params).length:Int))),(19,.d (.int .i64 v191))] [.bld 1 129,.buf 5 b11,.row (D0.cells d) 75,.row (D0.cells x2) 75] (Ret [.bld 1 129,.buf 5 res] (.tup []))
theorem Rr (d:D0):(∀ b1 v19 res,G3 d b1 v19=some res→Bm d b1 v19 res)∧(∀ b11 x2 v191 res,S7 d b11 x2 v191=some res→Lt d b11 x2 v191 res):=by
 refine G3.mutual_partial_correctness d _ _ ?_ ?_
 ·intro g1 ih1 b1 v19 res hh
  refine Y0.unroll (t' rfl (S' (ci' rfl hh (fun hh=>?_) (fun hh=>?_))))
  ·obtain ⟨x2,hx2,hh⟩:=bs' hh
   refine sk' (S' (bk' (p' 1 rfl (i' rfl (S0 hx2) (D0.idx hx2) rfl (q' rfl (K0.nf hC rfl (q' rfl (K0.s hC rfl (n' (S' (t' rfl (ci' rfl hh (fun hh=>?_) (fun hh=>?_)))))))))))))
   ·obtain ⟨x4,hx4,hh⟩:=bs' hh
    exact P' 3 rfl (g' [0,1] (L0 hx4) rfl rfl rfl rfl rfl rfl (n' (ew' (ih1 _ _ _ _ hh) rfl rfl rfl)))
   exact sk' (ew' (ih1 _ _ _ _ hh) rfl rfl rfl)
  obtain ⟨x5,hx5,hh⟩:=bs' hh
  obtain ⟨x6,hx6,hh⟩:=bs' hh
  obtain ⟨x7,hx7,hh⟩:=bs' hh
  refine ex' (p' 3 rfl (g' [0,1] (L0 hx5) rfl rfl rfl rfl rfl rfl (n' (p' 3 rfl (g' [0,1] (Yl hx6) rfl rfl rfl rfl rfl rfl (n' (p' 3 rfl (g' [0,1] (L0 hx7) rfl rfl rfl rfl rfl rfl (n' (S' (p' 2 rfl (qe' rfl trivial (D0.lenA _) (e' rfl ?_)))))))))))))
  exact bk' (fw' (Ls hh) rfl rfl rfl)
 ·intro g0 ih0 b11 x2 v191 res hh
  obtain ⟨x3,hx3,hh⟩:=bs' hh
  exact P' 5 rfl (g' [0,1] (B7 hx3) rfl rfl rfl rfl rfl rfl (n' (T' rfl (lw' (ih0 _ _ _ hh) rfl rfl rfl))))
theorem Ms {d b1 v19 res}(hh:G3 d b1 v19=some res):Bm d b1 v19 res:=(Rr d).1 _ _ _ hh
def Ha (d:D0)(b:Str):Option Str:=
 if (decide (5+d.Name.length≤maxLen))=true then
  if (decide (([102,117,110,99,32]++d.Name).length+1≤maxLen))=true then
   I0 (([102,117,110,99,32]++d.Name)++[40]) b>>=fun x1=>
   G3 d x1.2 0
  else none
 else none
theorem Tv {d b res}(hh:Ha d b=some res):N0 C 163 [.ref 0 0,.agg (D0.cells d)] [.bld 1 129,.buf 5 b] (Ret [.bld 1 129,.buf 5 res] (.tup [])):=by
 unfold Ha at hh
 obtain ⟨c19,hh⟩:=U0 hh
 obtain ⟨c20,hh⟩:=U0 hh
 obtain ⟨x1,hx1,hh⟩:=bs' hh
 refine N0.intro hC Tryz.func163 rfl rfl rfl (s' rfl rfl (K0.n hC rfl (n' (S' (AEx.draw hC 7 rfl rfl rfl (O' 5 rfl (AQ.q hC rfl c19 (AQ.q hC rfl c20 (Qn' (g' [0,1] (L0 hx1) rfl rfl rfl rfl rfl rfl (n' (S' (p' 2 rfl ?_)))))))))))))
 exact qe' rfl trivial (D0.lenA _) (e' rfl (bk' (fw' (Ms hh) rfl rfl rfl)))
def Uf (d:D0)(b:Str):Option Str:=
 if (d.Kind == 4)=true then
  C7 d b>>=fun x1=>
  some x1
 else
  if (d.Kind == 6)=true then
   Ha d b>>=fun x2=>
   some x2
  else
   if (d.Kind == 0)=true then
    if (decide (5+d.Name.length≤maxLen))=true then
     if (decide (([116,121,112,101,32]++d.Name).length+3≤maxLen))=true then
      I0 (([116,121,112,101,32]++d.Name)++[32,61,32]) b>>=fun x3=>
      W3 d.TypeV x3.2>>=fun x4=>
      I0 [59,10] x4>>=fun x5=>
      some x5.2
     else none
    else none
   else
    if (d.Kind == 1)=true then
     I0 [115,101,99,114,101,116,32] b>>=fun x6=>
     S3 d.Name d.TypeV x6.2>>=fun x7=>
     I0 [59,10] x7>>=fun x5=>
     some x5.2
    else
     if (d.Kind == 2)=true then
      I0 [112,117,98,108,105,99,32] b>>=fun x8=>
      S3 d.Name d.TypeV x8.2>>=fun x9=>
      I0 [59,10] x9>>=fun x5=>
      some x5.2
     else
      if (d.Kind == 3)=true then
       I0 [114,97,110,100,111,109,32] b>>=fun x10=>
       S3 d.Name d.TypeV x10.2>>=fun x11=>
       I0 [59,10] x11>>=fun x5=>
       some x5.2
      else
       if (d.Kind == 5)=true then
        I0 [104,97,116,99,104,32] b>>=fun x12=>
        S3 d.Name d.TypeV x12.2>>=fun x13=>
        I0 [32,61,32] x13>>=fun x14=>
        C1 d.Value x14.2>>=fun x15=>
        I0 [59,10] x15>>=fun x5=>
        some x5.2
       else
        I0 [59,10] b>>=fun x5=>
        some x5.2
theorem U11 {d b res}(hh:Uf d b=some res):N0 C 85 [.ref 0 0,.agg (D0.cells d)] [.bld 1 129,.buf 5 b] (Ret [.bld 1 129,.buf 5 res] (.tup [])):=by
 unfold Uf at hh
 refine N0.intro hC Tryz.func85 rfl rfl rfl (s' rfl rfl (K0.n hC rfl (n' (S' (t' rfl (bk' (t' rfl (ci' rfl hh (fun hh=>?_) (fun hh=>?_)))))))))
 ·obtain ⟨x1,hx1,hh⟩:=bs' hh
  cases hh
  exact p' 2 rfl (g' [0,1] (Bn hx1) rfl rfl rfl rfl rfl rfl (n' (re' (rt' rfl rfl rfl))))
 refine t' rfl (ci' rfl hh (fun hh=>?_) (fun hh=>?_))
 ·obtain ⟨x2,hx2,hh⟩:=bs' hh
  cases hh
  exact p' 2 rfl (g' [0,1] (Tv hx2) rfl rfl rfl rfl rfl rfl (n' (re' (rt' rfl rfl rfl))))
 refine t' rfl (ci' rfl hh (fun hh=>?_) (fun hh=>?_))
 ·obtain ⟨c9,hh⟩:=U0 hh
  obtain ⟨c10,hh⟩:=U0 hh
  obtain ⟨x3,hx3,hh⟩:=bs' hh
  obtain ⟨x4,hx4,hh⟩:=bs' hh
  obtain ⟨x5,hx5,hh⟩:=bs' hh
  cases hh
  exact S' (AEx.draw hC 7 rfl rfl rfl (O' 5 rfl (AQ.q hC rfl c9 (AQ.q hC rfl c10 (Qn' (g' [0,1] (L0 hx3) rfl rfl rfl rfl rfl rfl (n' (P' 3 rfl (g' [0,1] (Yl hx4) rfl rfl rfl rfl rfl rfl (n' (P' 3 rfl (g' [0,1] (L0 hx5) rfl rfl rfl rfl rfl rfl (n' (rn' rfl rfl rfl))))))))))))))
 refine t' rfl (ci' rfl hh (fun hh=>?_) (fun hh=>?_))
 ·obtain ⟨x6,hx6,hh⟩:=bs' hh
  obtain ⟨x7,hx7,hh⟩:=bs' hh
  obtain ⟨x5,hx5,hh⟩:=bs' hh
  cases hh
  exact p' 3 rfl (g' [0,1] (L0 hx6) rfl rfl rfl rfl rfl rfl (n' (P' 5 rfl (g' [0,1] (B7 hx7) rfl rfl rfl rfl rfl rfl (n' (P' 3 rfl (g' [0,1] (L0 hx5) rfl rfl rfl rfl rfl rfl (n' (rn' rfl rfl rfl)))))))))
 refine t' rfl (ci' rfl hh (fun hh=>?_) (fun hh=>?_))
 ·obtain ⟨x8,hx8,hh⟩:=bs' hh
  obtain ⟨x9,hx9,hh⟩:=bs' hh
  obtain ⟨x5,hx5,hh⟩:=bs' hh
  cases hh
  exact p' 3 rfl (g' [0,1] (L0 hx8) rfl rfl rfl rfl rfl rfl (n' (P' 5 rfl (g' [0,1] (B7 hx9) rfl rfl rfl rfl rfl rfl (n' (P' 3 rfl (g' [0,1] (L0 hx5) rfl rfl rfl rfl rfl rfl (n' (rn' rfl rfl rfl)))))))))
 refine t' rfl (ci' rfl hh (fun hh=>?_) (fun hh=>?_))
 ·obtain ⟨x10,hx10,hh⟩:=bs' hh
  obtain ⟨x11,hx11,hh⟩:=bs' hh
  obtain ⟨x5,hx5,hh⟩:=bs' hh
  cases hh
  exact p' 3 rfl (g' [0,1] (L0 hx10) rfl rfl rfl rfl rfl rfl (n' (P' 5 rfl (g' [0,1] (B7 hx11) rfl rfl rfl rfl rfl rfl (n' (P' 3 rfl (g' [0,1] (L0 hx5) rfl rfl rfl rfl rfl rfl (n' (rn' rfl rfl rfl)))))))))
 refine t' rfl (ci' rfl hh (fun hh=>?_) (fun hh=>?_))
 ·obtain ⟨x12,hx12,hh⟩:=bs' hh
  obtain ⟨x13,hx13,hh⟩:=bs' hh
  obtain ⟨x14,hx14,hh⟩:=bs' hh
  obtain ⟨x15,hx15,hh⟩:=bs' hh
  obtain ⟨x5,hx5,hh⟩:=bs' hh
  cases hh
  refine p' 3 rfl (g' [0,1] (L0 hx12) rfl rfl rfl rfl rfl rfl (n' (p' 5 rfl (g' [0,1] (B7 hx13) rfl rfl rfl rfl rfl rfl (n' (p' 3 rfl (g' [0,1] (L0 hx14) rfl rfl rfl rfl rfl rfl (n' (P' 3 rfl (g' [0,1] (Z2 hx15) rfl rfl rfl rfl rfl rfl (n' (P' 3 rfl (g' [0,1] (L0 hx5) rfl rfl rfl rfl rfl rfl ?_)))))))))))))
  exact n' (rn' rfl rfl rfl)
 obtain ⟨x5,hx5,hh⟩:=bs' hh
 cases hh
 exact sk' (P' 3 rfl (g' [0,1] (L0 hx5) rfl rfl rfl rfl rfl rfl (n' (rn' rfl rfl rfl))))
def Ja (p:O0)(b2:Str)(v18:Int):Option (Str×Int):=
 if (decide (v18 < ((p.Decls).length:Int)))=true then
  idx p.Decls v18>>=fun x2=>
  Uf x2 b2>>=fun x3=>
  Ja p x3 (IntKind.i64.wrap (v18+1))
 else
  I0 [98,101,103,105,110,10] b2>>=fun x4=>
  K4 p.Body [9] x4.2>>=fun x5=>
  I0 [101,110,100,10] x5>>=fun x6=>
  Xa x6.2>>=fun x7=>
  some (x7.1,x7.2)
 partial_fixpoint
abbrev Dw (p:O0)(b2:Str)(v18:Int)(res:Str×Int):Prop:=LM C 42 0 Tryz.f38 [1,1,1,0,1,4] [(1,.ref 0 0),(5,.ref 1 0),(16,.d (.sl (D0.rows p.Decls))),(17,.d (.int .i64 ((p.Decls).length:Int))),(18,.d (.int .i64 v18))] [.row (O0.cells p) 25,.bld 2 129,.buf 5 b2] (Ret [] (.tup [.d (.str res.1),.d (.int .i64 res.2)]))
theorem V16 (p:O0):(∀ b2 v18 res,Ja p b2 v18=some res→Dw p b2 v18 res):=by
 refine Ja.partial_correctness p _ ?_
 ·intro g0 ih0 b2 v18 res hh
  refine Y0.unroll (t' rfl (S' (ci' rfl hh (fun hh=>?_) (fun hh=>?_))))
  ·obtain ⟨x2,hx2,hh⟩:=bs' hh
   obtain ⟨x3,hx3,hh⟩:=bs' hh
   exact sk' (S' (bk' (s' rfl rfl (i' rfl (S0 hx2) (D0.idx hx2) rfl (q' rfl (K0.nf hC rfl (K0.s hC rfl (n' (P' 2 rfl (g' [1,2] (U11 hx3) rfl rfl rfl rfl rfl rfl (n' (T' rfl (lw' (ih0 _ _ _ hh) rfl rfl rfl)))))))))))))
  obtain ⟨x4,hx4,hh⟩:=bs' hh
  obtain ⟨x5,hx5,hh⟩:=bs' hh
  obtain ⟨x6,hx6,hh⟩:=bs' hh
  obtain ⟨x7,hx7,hh⟩:=bs' hh
  cases hh
  exact ex' (p' 3 rfl (g' [1,2] (L0 hx4) rfl rfl rfl rfl rfl rfl (n' (p' 3 rfl (g' [1,2] (Yo hx5) rfl rfl rfl rfl rfl rfl (n' (p' 3 rfl (g' [1,2] (L0 hx6) rfl rfl rfl rfl rfl rfl (n' (p' 1 rfl (g' [1,2] (Np hx7) rfl rfl rfl rfl rfl rfl (e' rfl (re' (rt' rfl rfl rfl))))))))))))))
theorem S18 {p b2 v18 res}(hh:Ja p b2 v18=some res):Dw p b2 v18 res:=(V16 p) _ _ _ hh
def Bo (p:O0):Option (Str×Int):=
 Gh p>>=fun x1=>
 if (x1 != 0)=true then
  some ([],x1)
 else
  Ja p [] 0
theorem X1d {p res}(hh:Bo p=some res):N0 C 38 [.agg (O0.cells p)] [] (Ret [] (.tup [.d (.str res.1),.d (.int .i64 res.2)])):=by
 unfold Bo at hh
 obtain ⟨x1,hx1,hh⟩:=bs' hh
 refine N0.intro hC Tryz.func38 rfl rfl rfl (s' rfl rfl (K0.n hC rfl (e' rfl (S' (p' 1 rfl (c' (Z10 hx1) rfl rfl (e' rfl (t' rfl (ci' rfl hh (fun hh=>?_) (fun hh=>?_))))))))))
 ·cases hh
  exact t' rfl (re' (rt' rfl rfl rfl))
 exact sk' (s' rfl rfl (K0.newB 5 rfl rfl rfl P1s rfl rfl (e' rfl (S' (p' 2 rfl (qe' rfl trivial (D0.lenA _) (e' rfl (bk' (fw' (S18 hh) rfl rfl rfl)))))))))
def Sp (p:O0):Option (Int×Int):=
 Ec p>>=fun x1=>
 L4 x1>>=fun x2=>
 if (x2 != 0)=true then
  some (0,x2)
 else
  some (x1.nodes,0)
theorem D1f {p res}(hh:Sp p=some res):N0 C 39 [.agg (O0.cells p)] [] (Ret [] (.tup [.d (.int .i64 res.1),.d (.int .i64 res.2)])):=by
 unfold Sp at hh
 obtain ⟨x1,hx1,hh⟩:=bs' hh
 obtain ⟨x2,hx2,hh⟩:=bs' hh
 refine N0.intro hC Tryz.func39 rfl rfl rfl (s' rfl rfl (K0.n hC rfl (e' rfl (p' 1 rfl (g' [] (Cw hx1) rfl rfl rfl rfl rfl rfl (e' rfl (S' (p' 1 rfl (g' [2] (Wl hx2) rfl rfl rfl rfl rfl rfl (e' rfl (t' rfl (ci' rfl hh (fun hh=>?_) (fun hh=>?_)))))))))))))
 ·cases hh
  exact t' rfl (re' (rt' rfl rfl rfl))
 cases hh
 exact sk' (t' rfl (re' (rt' rfl rfl rfl)))
def Yk:Option Bool:=
 Xn 1>>=fun x1=>
 Xn 2>>=fun x2=>
 Od 8 [x1,x2]>>=fun x3=>
 Sb [120]>>=fun x4=>
 Od 6 [x4]>>=fun x5=>
 Od 10 [x3,x5]>>=fun x6=>
 Yb x6>>=fun x7=>
 Sb [97]>>=fun x8=>
 Sb [98]>>=fun x9=>
 Sb [99]>>=fun x10=>
 Od 9 [x9,x10]>>=fun x11=>
 Od 9 [x8,x11]>>=fun x12=>
 Yb x12>>=fun x13=>
 Sb [97]>>=fun x14=>
 Sb [98]>>=fun x15=>
 Od 9 [x14,x15]>>=fun x16=>
 Sb [99]>>=fun x17=>
 Od 9 [x16,x17]>>=fun x18=>
 Yb x18>>=fun x19=>
 Sb [112,105,110]>>=fun x20=>
 Bo (O0.mk [(D0.mk 1 [112,105,110] (F0.mk 1 0 9 0 [] [] []) 0 (A0.mk 0 0 [] []) [] [] []),(D0.mk 4 [120] (F0.mk 0 0 0 0 [] [] []) 1 (A0.mk 0 0 [] []) [] [] [])] [(C0.mk 3 (A0.mk 0 0 [] []) x20 [] [] 0 0 0 [] [] [])])>>=fun x21=>
 Sp (O0.mk [(D0.mk 1 [112,105,110] (F0.mk 1 0 9 0 [] [] []) 0 (A0.mk 0 0 [] []) [] [] []),(D0.mk 4 [120] (F0.mk 0 0 0 0 [] [] []) 1 (A0.mk 0 0 [] []) [] [] [])] [(C0.mk 3 (A0.mk 0 0 [] []) x20 [] [] 0 0 0 [] [] [])])>>=fun x22=>
 if (bif (bif (bif (bif (bif (x7.2 != 0) then true else (x13.2 != 0)) then true else (x19.2 != 0)) then true else (x21.2 != 0)) then true else (x22.2 != 0)) then true else (x22.1 != 6))=true then
  some false
 else
  (if (bif (bif (bif (x7.1 == [40,49,32,43,32,50,41,32,42,32,45,120]) then (x13.1 == [97,32,45,32,40,98,32,45,32,99,41]) else false) then (x19.1 == [97,32,45,32,98,32,45,32,99]) else false) then (x21.1 == [115,101,99,114,101,116,32,112,105,110,58,32,105,110,116,91,48,46,46,57,93,59,10,118,97,114,32,120,58,32,98,111,111,108,32,61,32,116,114,117,101,59,10,98,101,103,105,110,10,9,111,117,116,112,117,116,32,112,105,110,59,10,101,110,100,10]) else false)=true then Xn (-1) else some default)>>=fun x23=>
  (if (bif (bif (bif (x7.1 == [40,49,32,43,32,50,41,32,42,32,45,120]) then (x13.1 == [97,32,45,32,40,98,32,45,32,99,41]) else false) then (x19.1 == [97,32,45,32,98,32,45,32,99]) else false) then (x21.1 == [115,101,99,114,101,116,32,112,105,110,58,32,105,110,116,91,48,46,46,57,93,59,10,118,97,114,32,120,58,32,98,111,111,108,32,61,32,116,114,117,101,59,10,98,101,103,105,110,10,9,111,117,116,112,117,116,32,112,105,110,59,10,101,110,100,10]) else false)=true then Gg x23 else some default)>>=fun x24=>
  some (bif (bif (bif (bif (x7.1 == [40,49,32,43,32,50,41,32,42,32,45,120]) then (x13.1 == [97,32,45,32,40,98,32,45,32,99,41]) else false) then (x19.1 == [97,32,45,32,98,32,45,32,99]) else false) then (x21.1 == [115,101,99,114,101,116,32,112,105,110,58,32,105,110,116,91,48,46,46,57,93,59,10,118,97,114,32,120,58,32,98,111,111,108,32,61,32,116,114,117,101,59,10,98,101,103,105,110,10,9,111,117,116,112,117,116,32,112,105,110,59,10,101,110,100,10]) else false) then (x24 == 3) else false)
theorem E1f {res}(hh:Yk=some res):N0 C 12 [] [] (Ret [] (.d (.bool res))):=by
 unfold Yk at hh
 obtain ⟨x1,hx1,hh⟩:=bs' hh
 obtain ⟨x2,hx2,hh⟩:=bs' hh
 obtain ⟨x3,hx3,hh⟩:=bs' hh
 obtain ⟨x4,hx4,hh⟩:=bs' hh
 obtain ⟨x5,hx5,hh⟩:=bs' hh
 obtain ⟨x6,hx6,hh⟩:=bs' hh
 obtain ⟨x7,hx7,hh⟩:=bs' hh
 obtain ⟨x8,hx8,hh⟩:=bs' hh
 obtain ⟨x9,hx9,hh⟩:=bs' hh
 obtain ⟨x10,hx10,hh⟩:=bs' hh
 obtain ⟨x11,hx11,hh⟩:=bs' hh
 obtain ⟨x12,hx12,hh⟩:=bs' hh
 obtain ⟨x13,hx13,hh⟩:=bs' hh
 obtain ⟨x14,hx14,hh⟩:=bs' hh
 obtain ⟨x15,hx15,hh⟩:=bs' hh
 obtain ⟨x16,hx16,hh⟩:=bs' hh
 obtain ⟨x17,hx17,hh⟩:=bs' hh
 obtain ⟨x18,hx18,hh⟩:=bs' hh
 obtain ⟨x19,hx19,hh⟩:=bs' hh
 obtain ⟨x20,hx20,hh⟩:=bs' hh
 obtain ⟨x21,hx21,hh⟩:=bs' hh
 obtain ⟨x22,hx22,hh⟩:=bs' hh
 refine N0.intro hC Tryz.func12 rfl rfl rfl (t' rfl (s' rfl rfl (c' (Iy hx1) rfl rfl (c' (Iy hx2) rfl rfl (K0.be hC rfl (A0.rows_map [x1,x2]).symm (K0.cl rfl (Ji hx3) ⟨.rfl,.full,trivial⟩ rfl (c' (Cf hx4) rfl rfl (K0.be hC rfl (A0.rows_map [x4]).symm (K0.cl rfl (Ji hx5) ⟨.rfl,.full,trivial⟩ rfl (K0.be hC rfl (A0.rows_map [x3,x5]).symm ?_))))))))))
 refine K0.cl rfl (Ji hx6) ⟨.rfl,.full,trivial⟩ rfl (c' (Ln hx7) rfl rfl (e' rfl (s' rfl rfl (c' (Cf hx8) rfl rfl (c' (Cf hx9) rfl rfl (c' (Cf hx10) rfl rfl (K0.be hC rfl (A0.rows_map [x9,x10]).symm (K0.cl rfl (Ji hx11) ⟨.rfl,.full,trivial⟩ rfl (K0.be hC rfl (A0.rows_map [x8,x11]).symm ?_)))))))))
 refine K0.cl rfl (Ji hx12) ⟨.rfl,.full,trivial⟩ rfl (c' (Ln hx13) rfl rfl (e' rfl (s' rfl rfl (c' (Cf hx14) rfl rfl (c' (Cf hx15) rfl rfl (K0.be hC rfl (A0.rows_map [x14,x15]).symm (K0.cl rfl (Ji hx16) ⟨.rfl,.full,trivial⟩ rfl (c' (Cf hx17) rfl rfl (K0.be hC rfl (A0.rows_map [x16,x17]).symm ?_)))))))))
 refine K0.cl rfl (Ji hx18) ⟨.rfl,.full,trivial⟩ rfl (c' (Ln hx19) rfl rfl (e' rfl (p' 3 rfl (K0.be hC rfl (D0.rows_map [(D0.mk 1 [112,105,110] (F0.mk 1 0 9 0 [] [] []) 0 (A0.mk 0 0 [] []) [] [] []),(D0.mk 4 [120] (F0.mk 0 0 0 0 [] [] []) 1 (A0.mk 0 0 [] []) [] [] [])]).symm (c' (Cf hx20) rfl rfl (q' rfl ?_))))))
 refine K0.be hC rfl (C0.rows_map [(C0.mk 3 (A0.mk 0 0 [] []) x20 [] [] 0 0 0 [] [] [])]).symm (q' rfl (K0.nf hC rfl (K0.s hC rfl (n' (p' 1 rfl (K0.cl rfl (X1d hx21) ⟨(.aggL ⟨.full,.full,trivial⟩),trivial⟩ rfl (e' rfl (p' 1 rfl (K0.cl rfl (D1f hx22) ⟨(.aggL ⟨.full,.full,trivial⟩),trivial⟩ rfl (e' rfl (S' (sg' 22 rfl (G' 4 rfl ?_)))))))))))))
 refine a1' rfl (po' rfl (G' 2 rfl (a1' rfl (po' rfl (G' 2 rfl (a1' rfl (po' rfl (G' 2 rfl (a1' rfl (po' rfl (G' 2 rfl (a1' rfl (po' rfl ?_)))))))))))))
 refine an' (n' (ci' rfl hh (fun hh=>?_) (fun hh=>?_)))
 ·cases hh
  exact t' rfl (re' (rt' rfl rfl rfl))
 obtain ⟨x23,hx23,hh⟩:=bs' hh
 obtain ⟨x24,hx24,hh⟩:=bs' hh
 cases hh
 refine sk' (sg' 20 rfl (G' 4 rfl (a1' rfl (pa' rfl (G' 2 rfl (a1' rfl (pa' rfl (G' 2 rfl (a1' rfl (pa' rfl (a0' rfl (AG.c rfl rfl (fun _=>trivial) (fun hw=>Iy (L1 hw hx23)) (AG.c rfl rfl (fun hg=>⟨hg,trivial⟩) (fun hw=>Rs (L1 hw hx24)) ?_)))))))))))))
 exact a1' rfl (pa' rfl (a0' rfl (an' (n' (re' (rt' rfl rfl rfl))))))
mutual
def T9 (t:F0)(left:Int):Option Int:=
 Qe t (IntKind.i64.wrap ((IntKind.i64.wrap (left - 1)) - (IntKind.i64.wrap (Int.tdiv ((t.Name).length:Int) 16)))) 0
 partial_fixpoint
def Qe (t:F0)(left1:Int)(i:Int):Option Int:=
 if (bif (decide (i < ((t.Names).length:Int))) then (decide (left1≥0)) else false)=true then
  idx t.Names i>>=fun x1=>
  Qe t (IntKind.i64.wrap ((IntKind.i64.wrap (left1 - 1)) - (IntKind.i64.wrap (Int.tdiv ((x1).length:Int) 16)))) (IntKind.i64.wrap (i+1))
 else
  Re t left1 0
 partial_fixpoint
def Re (t:F0)(left2:Int)(i1:Int):Option Int:=
 if (bif (decide (i1 < ((t.Of).length:Int))) then (decide (left2≥0)) else false)=true then
  idx t.Of i1>>=fun x2=>
  T9 x2 left2>>=fun x3=>
  Re t x3 (IntKind.i64.wrap (i1+1))
 else
  some left2
 partial_fixpoint
end
abbrev Zy (t:F0)(left:Int)(res:Int):Prop:=N0 C 75 [.agg (F0.cells t),.d (.int .i64 left)] [] (Ret [] (.d (.int .i64 res)))
abbrev W16 (t:F0)(left1:Int)(i:Int)(res:Int):Prop:=LM C 54 0 Tryz.f75 [1,1,0,1,4] [(1,.d (.int .i64 left1)),(2,.ref 0 0),(5,.d (.int .i64 i))] [.row (F0.cells t) 48] (Ret [] (.d (.int .i64 res)))
abbrev X16 (t:F0)(left2:Int)(i1:Int)(res:Int):Prop:=LM C 54 0 Tryz.f75 [1,1,1,0,1,4] [(1,.d (.int .i64 left2)),(2,.ref 0 0),(6,.d (.int .i64 i1))] [.row (F0.cells t) 48] (Ret [] (.d (.int .i64 res)))
theorem T18:(∀ t left res,T9 t left=some res→Zy t left res)∧(∀ t left1 i res,Qe t left1 i=some res→W16 t left1 i res)∧(∀ t left2 i1 res,Re t left2 i1=some res→X16 t left2 i1 res):=by
 refine T9.mutual_partial_correctness _ _ _ ?_ ?_ ?_
 ·intro g1 ih1 t left res hh
  exact N0.intro hC Tryz.func75 rfl rfl rfl (s' rfl rfl (K0.n hC rfl (e' rfl (p' 5 rfl (qc' rfl (by decide) (e' rfl (S' (t' rfl (bk' (fw' (ih1 _ _ _ _ hh) rfl rfl rfl))))))))))
 ·intro g1 g2 ih1 ih2 t left1 i res hh
  refine Y0.unroll (S' (sg' 9 rfl (G' 3 rfl (AG.qe hC rfl (fun hg=>⟨trivial,trivial⟩) (estr.lenA _) (G' 3 rfl (a1' rfl (pa' rfl (an' (n' (ci' rfl hh (fun hh=>?_) (fun hh=>?_)))))))))))
  ·obtain ⟨x1,hx1,hh⟩:=bs' hh
   exact sk' (S' (bk' (P' 5 rfl (i' rfl (S0 hx1) (estr.idx hx1) rfl (o' 2 rfl (qc' rfl (by decide) (e' rfl (T' rfl (lw' (ih1 _ _ _ _ hh) rfl rfl rfl)))))))))
  exact ex' (S' (t' rfl (bk' (fw' (ih2 _ _ _ _ hh) rfl rfl rfl))))
 ·intro g0 g2 ih0 ih2 t left2 i1 res hh
  refine Y0.unroll (S' (sg' 9 rfl (G' 3 rfl (AG.qe hC rfl (fun hg=>⟨trivial,trivial⟩) (F0.lenA _) (G' 3 rfl (a1' rfl (pa' rfl (an' (n' (ci' rfl hh (fun hh=>?_) (fun hh=>?_)))))))))))
  ·obtain ⟨x2,hx2,hh⟩:=bs' hh
   obtain ⟨x3,hx3,hh⟩:=bs' hh
   exact sk' (S' (bk' (P' 3 rfl (i' rfl (S0 hx2) (F0.idx hx2) rfl (o' 2 rfl (c' (ih0 _ _ _ hx3) rfl rfl (e' rfl (T' rfl (lw' (ih2 _ _ _ _ hh) rfl rfl rfl)))))))))
  cases hh
  exact ex' (t' rfl (re' (rt' rfl rfl rfl)))
theorem Q1a {t left res}(hh:T9 t left=some res):Zy t left res:=(T18).1 _ _ _ hh
mutual
def L6 (e:A0)(left:Int):Option Int:=
 Se e (IntKind.i64.wrap ((IntKind.i64.wrap (left - 1)) - (IntKind.i64.wrap (Int.tdiv ((e.Name).length:Int) 16)))) 0
 partial_fixpoint
def Se (e:A0)(left1:Int)(i:Int):Option Int:=
 if (bif (decide (i < ((e.Kids).length:Int))) then (decide (left1≥0)) else false)=true then
  idx e.Kids i>>=fun x1=>
  L6 x1 left1>>=fun x2=>
  Se e x2 (IntKind.i64.wrap (i+1))
 else
  some left1
 partial_fixpoint
end
abbrev Az (e:A0)(left:Int)(res:Int):Prop:=N0 C 72 [.agg (A0.cells e),.d (.int .i64 left)] [] (Ret [] (.d (.int .i64 res)))
abbrev Y16 (e:A0)(left1:Int)(i:Int)(res:Int):Prop:=LM C 32 0 Tryz.f72 [1,1,0,1,4] [(1,.d (.int .i64 left1)),(2,.ref 0 0),(5,.d (.int .i64 i))] [.row (A0.cells e) 40] (Ret [] (.d (.int .i64 res)))
theorem U18:(∀ e left res,L6 e left=some res→Az e left res)∧(∀ e left1 i res,Se e left1 i=some res→Y16 e left1 i res):=by
 refine L6.mutual_partial_correctness _ _ ?_ ?_
 ·intro g1 ih1 e left res hh
  exact N0.intro hC Tryz.func72 rfl rfl rfl (s' rfl rfl (K0.n hC rfl (e' rfl (p' 5 rfl (qc' rfl (by decide) (e' rfl (S' (t' rfl (bk' (fw' (ih1 _ _ _ _ hh) rfl rfl rfl))))))))))
 ·intro g0 g1 ih0 ih1 e left1 i res hh
  refine Y0.unroll (S' (sg' 9 rfl (G' 3 rfl (AG.qe hC rfl (fun hg=>⟨trivial,trivial⟩) (A0.lenA _) (G' 3 rfl (a1' rfl (pa' rfl (an' (n' (ci' rfl hh (fun hh=>?_) (fun hh=>?_)))))))))))
  ·obtain ⟨x1,hx1,hh⟩:=bs' hh
   obtain ⟨x2,hx2,hh⟩:=bs' hh
   exact sk' (S' (bk' (P' 3 rfl (i' rfl (S0 hx1) (A0.idx hx1) rfl (o' 2 rfl (c' (ih0 _ _ _ hx2) rfl rfl (e' rfl (T' rfl (lw' (ih1 _ _ _ _ hh) rfl rfl rfl)))))))))
  cases hh
  exact ex' (t' rfl (re' (rt' rfl rfl rfl)))
theorem Fl {e left res}(hh:L6 e left=some res):Az e left res:=(U18).1 _ _ _ hh
mutual
def V5 (l:List C0)(left:Int):Option Int:=
 C9 l left 0
 partial_fixpoint
def C9 (l:List C0)(left2:Int)(i:Int):Option Int:=
 if (bif (decide (i < ((l).length:Int))) then (decide (left2≥0)) else false)=true then
  idx l i>>=fun x1=>
  L6 x1.Place (IntKind.i64.wrap ((IntKind.i64.wrap (left2 - 1)) - (IntKind.i64.wrap (Int.tdiv ((x1.Name).length:Int) 16))))>>=fun x2=>
  L6 x1.Value x2>>=fun x3=>
  Hc l x1 x3 i 0
 else
  some left2
 partial_fixpoint
def Hc (l:List C0)(x1:C0)(left1:Int)(i1:Int)(k:Int):Option Int:=
 if (bif (decide (k < ((x1.Args).length:Int))) then (decide (left1≥0)) else false)=true then
  idx x1.Args k>>=fun x4=>
  L6 x4 left1>>=fun x5=>
  Hc l x1 x5 i1 (IntKind.i64.wrap (k+1))
 else
  if (decide (((x1.Numbers).length:Int) > 100))=true then
   some (-1)
  else
   V5 x1.Then left1>>=fun x6=>
   V5 x1.Else x6>>=fun x7=>
   C9 l x7 (IntKind.i64.wrap (i1+1))
 partial_fixpoint
end
abbrev Ew (l:List C0)(left:Int)(res:Int):Prop:=N0 C 41 [.d (.sl (C0.rows l)),.d (.int .i64 left)] [] (Ret [] (.d (.int .i64 res)))
abbrev S14 (l:List C0)(left2:Int)(i:Int)(res:Int):Prop:=LM C 68 0 Tryz.f41 [1,0,1,4] [(0,.d (.sl (C0.rows l))),(1,.d (.int .i64 left2)),(5,.d (.int .i64 i))] [] (Ret [] (.d (.int .i64 res)))
abbrev T14 (l:List C0)(x1:C0)(left1:Int)(i1:Int)(k:Int)(res:Int):Prop:=LM C 68 0 Tryz.f41 [1,0,1,4,5,1,0,4,1,1,1,1,0,1,4] [(0,.d (.sl (C0.rows l))),(1,.d (.int .i64 left1)),(5,.d (.int .i64 i1)),(6,.ref 0 0),(7,.d (.int .i64 k))] [.row (C0.cells x1) 79] (Ret [] (.d (.int .i64 res)))
theorem Z16:(∀ l left res,V5 l left=some res→Ew l left res)∧(∀ l left2 i res,C9 l left2 i=some res→S14 l left2 i res)∧(∀ l x1 left1 i1 k res,Hc l x1 left1 i1 k=some res→T14 l x1 left1 i1 k res):=by
 refine V5.mutual_partial_correctness _ _ _ ?_ ?_ ?_
 ·intro g1 ih1 l left res hh
  exact N0.intro hC Tryz.func41 rfl rfl rfl (t' rfl (S' (t' rfl (bk' (fw' (ih1 _ _ _ _ hh) rfl rfl rfl)))))
 ·intro g2 ih2 l left2 i res hh
  refine Y0.unroll (S' (sg' 8 rfl (G' 2 rfl (AG.qe hC rfl (fun hg=>⟨trivial,trivial⟩) (C0.lenA _) (G' 3 rfl (a1' rfl (pa' rfl (an' (n' (ci' rfl hh (fun hh=>?_) (fun hh=>?_)))))))))))
  ·obtain ⟨x1,hx1,hh⟩:=bs' hh
   obtain ⟨x2,hx2,hh⟩:=bs' hh
   obtain ⟨x3,hx3,hh⟩:=bs' hh
   refine sk' (S' (bk' (p' 2 rfl (i' rfl (S0 hx1) (C0.idx hx1) rfl (q' rfl (K0.nf hC rfl (K0.s hC rfl (n' (p' 5 rfl (qc' rfl (by decide) (e' rfl (p' 3 rfl (c' (Fl hx2) rfl rfl ?_)))))))))))))
   exact e' rfl (p' 3 rfl (c' (Fl hx3) rfl rfl (e' rfl (S' (t' rfl (bk' (fw' (ih2 _ _ _ _ _ _ hh) rfl rfl rfl)))))))
  cases hh
  exact ex' (t' rfl (re' (rt' rfl rfl rfl)))
 ·intro g0 g1 g2 ih0 ih1 ih2 l x1 left1 i1 k res hh
  refine Y0.unroll (S' (sg' 9 rfl (G' 3 rfl (AG.qe hC rfl (fun hg=>⟨trivial,trivial⟩) (A0.lenA _) (G' 3 rfl (a1' rfl (pa' rfl (an' (n' (ci' rfl hh (fun hh=>?_) (fun hh=>?_)))))))))))
  ·obtain ⟨x4,hx4,hh⟩:=bs' hh
   obtain ⟨x5,hx5,hh⟩:=bs' hh
   exact sk' (S' (bk' (P' 3 rfl (i' rfl (S0 hx4) (A0.idx hx4) rfl (o' 2 rfl (c' (Fl hx5) rfl rfl (e' rfl (T' rfl (lw' (ih2 _ _ _ _ _ _ hh) rfl rfl rfl)))))))))
  refine ex' (S' (p' 2 rfl (qe' rfl trivial (ei64.lenA _) (e' rfl (ci' rfl hh (fun hh=>?_) (fun hh=>?_))))))
  ·cases hh
   exact t' rfl (re' (rt' rfl rfl rfl))
  obtain ⟨x6,hx6,hh⟩:=bs' hh
  obtain ⟨x7,hx7,hh⟩:=bs' hh
  exact sk' (p' 3 rfl (c' (ih0 _ _ _ hx6) rfl rfl (e' rfl (P' 3 rfl (c' (ih0 _ _ _ hx7) rfl rfl (e' rfl (T' rfl (lw' (ih1 _ _ _ _ hh) rfl rfl rfl))))))))
theorem Su {l left res}(hh:V5 l left=some res):Ew l left res:=(Z16).1 _ _ _ hh
mutual
def Ka (l:List D0)(left:Int):Option Int:=
 Ic l left 0
 partial_fixpoint
def Ic (l:List D0)(left1:Int)(i:Int):Option Int:=
 if (bif (decide (i < ((l).length:Int))) then (decide (left1≥0)) else false)=true then
  idx l i>>=fun x1=>
  T9 x1.TypeV (IntKind.i64.wrap ((IntKind.i64.wrap (left1 - 1)) - (IntKind.i64.wrap (Int.tdiv ((x1.Name).length:Int) 16))))>>=fun x2=>
  L6 x1.Value x2>>=fun x3=>
  Ka x1.Params x3>>=fun x4=>
  Ka x1.Vars x4>>=fun x5=>
  V5 x1.Body x5>>=fun x6=>
  Ic l x6 (IntKind.i64.wrap (i+1))
 else
  some left1
 partial_fixpoint
end
abbrev Fw (l:List D0)(left:Int)(res:Int):Prop:=N0 C 42 [.d (.sl (D0.rows l)),.d (.int .i64 left)] [] (Ret [] (.d (.int .i64 res)))
abbrev U14 (l:List D0)(left1:Int)(i:Int)(res:Int):Prop:=LM C 49 0 Tryz.f42 [1,0,1,4] [(0,.d (.sl (D0.rows l))),(1,.d (.int .i64 left1)),(5,.d (.int .i64 i))] [] (Ret [] (.d (.int .i64 res)))
theorem A17:(∀ l left res,Ka l left=some res→Fw l left res)∧(∀ l left1 i res,Ic l left1 i=some res→U14 l left1 i res):=by
 refine Ka.mutual_partial_correctness _ _ ?_ ?_
 ·intro g1 ih1 l left res hh
  exact N0.intro hC Tryz.func42 rfl rfl rfl (t' rfl (S' (t' rfl (bk' (fw' (ih1 _ _ _ _ hh) rfl rfl rfl)))))
 ·intro g0 g1 ih0 ih1 l left1 i res hh
  refine Y0.unroll (S' (sg' 8 rfl (G' 2 rfl (AG.qe hC rfl (fun hg=>⟨trivial,trivial⟩) (D0.lenA _) (G' 3 rfl (a1' rfl (pa' rfl (an' (n' (ci' rfl hh (fun hh=>?_) (fun hh=>?_)))))))))))
  ·obtain ⟨x1,hx1,hh⟩:=bs' hh
   obtain ⟨x2,hx2,hh⟩:=bs' hh
   obtain ⟨x3,hx3,hh⟩:=bs' hh
   obtain ⟨x4,hx4,hh⟩:=bs' hh
   obtain ⟨x5,hx5,hh⟩:=bs' hh
   obtain ⟨x6,hx6,hh⟩:=bs' hh
   refine sk' (S' (bk' (p' 2 rfl (i' rfl (S0 hx1) (D0.idx hx1) rfl (q' rfl (K0.nf hC rfl (K0.s hC rfl (n' (p' 5 rfl (qc' rfl (by decide) (e' rfl (p' 3 rfl (c' (Q1a hx2) rfl rfl ?_)))))))))))))
   exact e' rfl (p' 3 rfl (c' (Fl hx3) rfl rfl (e' rfl (p' 3 rfl (c' (ih0 _ _ _ hx4) rfl rfl (e' rfl (p' 3 rfl (c' (ih0 _ _ _ hx5) rfl rfl (e' rfl (P' 3 rfl (c' (Su hx6) rfl rfl (e' rfl (T' rfl (lw' (ih1 _ _ _ _ hh) rfl rfl rfl))))))))))))))
  cases hh
  exact ex' (t' rfl (re' (rt' rfl rfl rfl)))
theorem V18 {l left res}(hh:Ka l left=some res):Fw l left res:=(A17).1 _ _ _ hh
end Go.Proofs.YtbmlpamppbcdeaaGreatDoor

set_option maxRecDepth 100000
set_option maxHeartbeats 4000000
set_option synthInstance.maxSize 20000
set_option linter.unusedVariables false
namespace Go.Proofs.YtbmlpamppbcdeaaGreatDoor
open Go.Am
def Tu (p:O0)(most:Int):Option Bool:=
 Ka p.Decls most>>=fun x1=>
 V5 p.Body x1>>=fun x2=>
 some (decide (x2≥0))
theorem G1j {p most res}(hh:Tu p most=some res):N0 C 13 [.agg (O0.cells p),.d (.int .i64 most)] [] (Ret [] (.d (.bool res))):=by
 unfold Tu at hh
 obtain ⟨x1,hx1,hh⟩:=bs' hh
 obtain ⟨x2,hx2,hh⟩:=bs' hh
 cases hh
 exact N0.intro hC Tryz.func13 rfl rfl rfl (s' rfl rfl (K0.n hC rfl (e' rfl (S' (AEx.draw hC 9 rfl rfl rfl (O' 5 rfl (Qc' (V18 hx1) rfl rfl (Qc' (Su hx2) rfl rfl (E' rfl (n' (re' (rt' rfl rfl rfl))))))))))))
def Z7 (s:Str)(m:List (Str×Bool)):Option (Str×List (Str×Bool)):=
 some (s,(mpt s true m))
theorem Gl {s m res}(hh:Z7 s m=some res):N0 C 91 [.d (.str s),.ref 0 0] [.row [.mp 1] 144,.map (.s (ebool.ents m))] (Ret [.row [.mp 1] 144,.map (.s (ebool.ents res.2))] (.d (.str res.1))):=by
 unfold Z7 at hh
 cases hh
 exact N0.intro hC Tryz.func91 rfl rfl rfl (t' rfl (p' 2 rfl (K0.ue hC rfl (ebool.mput _ true _) rfl (n' (t' rfl (re' (rt' rfl rfl rfl)))))))
mutual
def D9 (t:F0)(m:List (Str×Bool)):Option (F0×List (Str×Bool)):=
 if (t.Kind == 4)=true then
  Z7 t.Name m>>=fun x1=>
  Jc t x1.2 x1.1
 else
  Jc t m t.Name
 partial_fixpoint
def Jc (t:F0)(m1:List (Str×Bool))(o3_Name:Str):Option (F0×List (Str×Bool)):=
 R7 t.Names>>=fun x2=>
 Um t.Of m1>>=fun x3=>
 some ((F0.mk t.Kind t.Low t.High t.Size o3_Name x2 x3.1),x3.2)
 partial_fixpoint
def Um (l:List F0)(m:List (Str×Bool)):Option (List F0×List (Str×Bool)):=
 D7 l m [] 0
 partial_fixpoint
def D7 (l:List F0)(m1:List (Str×Bool))(out:List F0)(v10:Int):Option (List F0×List (Str×Bool)):=
 if (decide (v10 < ((l).length:Int)))=true then
  idx l v10>>=fun x1=>
  D9 x1 m1>>=fun x2=>
  if (decide ((out.length+1) * 97≤140737488355328))=true then
   D7 l x2.2 (out++[x2.1]) (IntKind.i64.wrap (v10+1))
  else none
 else
  some (out,m1)
 partial_fixpoint
end
abbrev Sr (t:F0)(m:List (Str×Bool))(res:F0×List (Str×Bool)):Prop:=N0 C 106 [.agg [.clo 91 [.ref 0 0]],.agg (F0.cells t)] [.row [.mp 1] 144,.map (.s (ebool.ents m))] (Ret [.row [.mp 1] 144,.map (.s (ebool.ents res.2))] (.agg (F0.cells res.1)))
abbrev I10 (t:F0)(m1:List (Str×Bool))(o3_Name:Str)(res:F0×List (Str×Bool)):Prop:=JM C 25 2 Tryz.f106 [1,1] [(2,.ref 2 0),(3,.ref 3 0),(4,.ref 4 0)] [.row [.mp 1] 144,.map (.s (ebool.ents m1)),.row [.clo 91 [.ref 0 0]] 92,.row [.d (.int .i64 t.Kind),.d (.int .i64 t.Low),.d (.int .i64 t.High),.d (.int .i64 t.Size),.d (.str o3_Name),.d (.sl (estr.rows t.Names)),.d (.sl (F0.rows t.Of))] 48,.row [.d (.int .i64 0),.d (.int .i64 0),.d (.int .i64 0),.d (.int .i64 0),.d (.str []),.full (estr.rows []),.full (F0.rows [])] 48] (Ret [.row [.mp 1] 144,.map (.s (ebool.ents res.2))] (.agg (F0.cells res.1)))
abbrev V11 (l:List F0)(m:List (Str×Bool))(res:List F0×List (Str×Bool)):Prop:=N0 C 194 [.d (.sl (F0.rows l)),.bnd 106 [.agg [.clo 91 [.ref 0 0]]]] [.row [.mp 1] 144,.map (.s (ebool.ents m))] (Ret [.row [.mp 1] 144,.map (.s (ebool.ents res.2))] (.d (.sl (F0.rows res.1))))
abbrev Hx (l:List F0)(m1:List (Str×Bool))(out:List F0)(v10:Int)(res:List F0×List (Str×Bool)):Prop:=LM C 22 2 Tryz.f194 [1,1,0,1,4] [(1,.bnd 106 [.agg [.clo 91 [.ref 0 0]]]),(5,.osl 2 (F0.rows out)),(8,.d (.sl (F0.rows l))),(9,.d (.int .i64 ((l).length:Int))),(10,.d (.int .i64 v10))] [.row [.mp 1] 144,.map (.s (ebool.ents m1)),.tok 48 7] (Ret [.row [.mp 1] 144,.map (.s (ebool.ents res.2))] (.d (.sl (F0.rows res.1))))
theorem W11:(∀ t m res,D9 t m=some res→Sr t m res)∧(∀ t m1 o3_Name res,Jc t m1 o3_Name=some res→I10 t m1 o3_Name res)∧(∀ l m res,Um l m=some res→V11 l m res)∧(∀ l m1 out v10 res,D7 l m1 out v10=some res→Hx l m1 out v10 res):=by
 refine D9.mutual_partial_correctness _ _ _ _ ?_ ?_ ?_ ?_
 ·intro g1 ih1 t m res hh
  refine N0.intro hC Tryz.func106 rfl rfl rfl (s' rfl rfl (K0.n hC rfl (K0.n hC rfl (K0.nf hC rfl (n' (S' (t' rfl (ci' rfl hh (fun hh=>?_) (fun hh=>?_)))))))))
  ·obtain ⟨x1,hx1,hh⟩:=bs' hh
   exact P' 4 rfl (g' [0,1] (Gl hx1) rfl rfl rfl rfl rfl rfl (q' rfl (K0.s hC rfl (n' (ew' (ih1 _ _ _ _ hh) rfl rfl rfl)))))
  exact sk' (ew' (ih1 _ _ _ _ hh) rfl rfl rfl)
 ·intro g2 ih2 t m1 o3_Name res hh
  obtain ⟨x2,hx2,hh⟩:=bs' hh
  obtain ⟨x3,hx3,hh⟩:=bs' hh
  cases hh
  exact p' 2 rfl (c' (Al hx2) rfl rfl (q' rfl (K0.s hC rfl (n' (p' 4 rfl (g' [0,1] (ih2 _ _ _ hx3) rfl rfl rfl rfl rfl rfl (q' rfl (K0.s hC rfl (n' (p' 1 rfl (K0.s hC rfl (n' (re' (rt' rfl rfl rfl))))))))))))))
 ·intro g3 ih3 l m res hh
  exact N0.intro hC Tryz.func194 rfl rfl rfl (t' rfl (p' 1 rfl (K0.tokE 5 48 7 rfl (n' (S' (p' 1 rfl (qe' rfl trivial (F0.lenA _) (e' rfl (bk' (fw' (ih3 _ _ _ _ _ hh) rfl rfl rfl))))))))))
 ·intro g0 g3 ih0 ih3 l m1 out v10 res hh
  refine Y0.unroll (t' rfl (S' (ci' rfl hh (fun hh=>?_) (fun hh=>?_))))
  ·obtain ⟨x1,hx1,hh⟩:=bs' hh
   obtain ⟨x2,hx2,hh⟩:=bs' hh
   obtain ⟨c6,hh⟩:=U0 hh
   refine sk' (S' (bk' (s' rfl rfl (i' rfl (S0 hx1) (F0.idx hx1) rfl (q' rfl (K0.nf hC rfl (K0.s hC rfl (n' (P' 3 rfl (g' [0,1] (ih0 _ _ _ hx2) rfl rfl rfl rfl rfl rfl (K0.be hC rfl (F0.rows_map [x2.1]).symm (K0.ap hC rfl (rs:=F0.rows (out++[x2.1])) (F0.app out [x2.1]) (F0.sz out) (F0.sz [x2.1]) (T2 (F0.len out) (F0.len [x2.1]) c6) (e' rfl ?_)))))))))))))
   exact T' rfl (lw' (ih3 _ _ _ _ _ hh) rfl rfl rfl)
  refine ex' (t' rfl (re' ?_))
  obtain rfl:=oi' hh
  exact ⟨_,.d (.sl (F0.rows out)),[.row [.mp 1] 144,.map (.s (ebool.ents m1))],rfl,.osl,⟨⟨rfl,.refl _,rfl⟩,rfl,trivial⟩,rfl,rfl,rfl,rfl⟩
theorem B13 {t m res}(hh:D9 t m=some res):Sr t m res:=(W11).1 _ _ _ hh
mutual
def A5 (e:A0)(m:List (Str×Bool)):Option (A0×List (Str×Bool)):=
 if (e.Op == 3)=true then
  Z7 e.Name m>>=fun x1=>
  Mb e x1.2 x1.1
 else
  Mb e m e.Name
 partial_fixpoint
def Mb (e:A0)(m1:List (Str×Bool))(o3_Name:Str):Option (A0×List (Str×Bool)):=
 L7 e.Kids m1>>=fun x2=>
 some ((A0.mk e.Op e.NV o3_Name x2.1),x2.2)
 partial_fixpoint
def L7 (l:List A0)(m:List (Str×Bool)):Option (List A0×List (Str×Bool)):=
 J3 l m [] 0
 partial_fixpoint
def J3 (l:List A0)(m1:List (Str×Bool))(out:List A0)(v10:Int):Option (List A0×List (Str×Bool)):=
 if (decide (v10 < ((l).length:Int)))=true then
  idx l v10>>=fun x1=>
  A5 x1 m1>>=fun x2=>
  if (decide ((out.length+1) * 57≤140737488355328))=true then
   J3 l x2.2 (out++[x2.1]) (IntKind.i64.wrap (v10+1))
  else none
 else
  some (out,m1)
 partial_fixpoint
end
abbrev Br (e:A0)(m:List (Str×Bool))(res:A0×List (Str×Bool)):Prop:=N0 C 107 [.agg [.clo 91 [.ref 0 0]],.agg (A0.cells e)] [.row [.mp 1] 144,.map (.s (ebool.ents m))] (Ret [.row [.mp 1] 144,.map (.s (ebool.ents res.2))] (.agg (A0.cells res.1)))
abbrev Bz (e:A0)(m1:List (Str×Bool))(o3_Name:Str)(res:A0×List (Str×Bool)):Prop:=JM C 21 2 Tryz.f107 [1,1] [(2,.ref 2 0),(3,.ref 3 0),(4,.ref 4 0)] [.row [.mp 1] 144,.map (.s (ebool.ents m1)),.row [.clo 91 [.ref 0 0]] 92,.row [.d (.int .i64 e.Op),.d (.int .i64 e.NV),.d (.str o3_Name),.d (.sl (A0.rows e.Kids))] 40,.row [.d (.int .i64 0),.d (.int .i64 0),.d (.str []),.full (A0.rows [])] 40] (Ret [.row [.mp 1] 144,.map (.s (ebool.ents res.2))] (.agg (A0.cells res.1)))
abbrev Tp (l:List A0)(m:List (Str×Bool))(res:List A0×List (Str×Bool)):Prop:=N0 C 109 [.d (.sl (A0.rows l)),.bnd 107 [.agg [.clo 91 [.ref 0 0]]]] [.row [.mp 1] 144,.map (.s (ebool.ents m))] (Ret [.row [.mp 1] 144,.map (.s (ebool.ents res.2))] (.d (.sl (A0.rows res.1))))
abbrev Ix (l:List A0)(m1:List (Str×Bool))(out:List A0)(v10:Int)(res:List A0×List (Str×Bool)):Prop:=LM C 22 2 Tryz.f109 [1,1,0,1,4] [(1,.bnd 107 [.agg [.clo 91 [.ref 0 0]]]),(5,.osl 2 (A0.rows out)),(8,.d (.sl (A0.rows l))),(9,.d (.int .i64 ((l).length:Int))),(10,.d (.int .i64 v10))] [.row [.mp 1] 144,.map (.s (ebool.ents m1)),.tok 40 4] (Ret [.row [.mp 1] 144,.map (.s (ebool.ents res.2))] (.d (.sl (A0.rows res.1))))
theorem Zo:(∀ e m res,A5 e m=some res→Br e m res)∧(∀ e m1 o3_Name res,Mb e m1 o3_Name=some res→Bz e m1 o3_Name res)∧(∀ l m res,L7 l m=some res→Tp l m res)∧(∀ l m1 out v10 res,J3 l m1 out v10=some res→Ix l m1 out v10 res):=by
 refine A5.mutual_partial_correctness _ _ _ _ ?_ ?_ ?_ ?_
 ·intro g1 ih1 e m res hh
  refine N0.intro hC Tryz.func107 rfl rfl rfl (s' rfl rfl (K0.n hC rfl (K0.n hC rfl (K0.nf hC rfl (n' (S' (t' rfl (ci' rfl hh (fun hh=>?_) (fun hh=>?_)))))))))
  ·obtain ⟨x1,hx1,hh⟩:=bs' hh
   exact P' 4 rfl (g' [0,1] (Gl hx1) rfl rfl rfl rfl rfl rfl (q' rfl (K0.s hC rfl (n' (ew' (ih1 _ _ _ _ hh) rfl rfl rfl)))))
  exact sk' (ew' (ih1 _ _ _ _ hh) rfl rfl rfl)
 ·intro g2 ih2 e m1 o3_Name res hh
  obtain ⟨x2,hx2,hh⟩:=bs' hh
  cases hh
  exact p' 4 rfl (g' [0,1] (ih2 _ _ _ hx2) rfl rfl rfl rfl rfl rfl (q' rfl (K0.s hC rfl (n' (p' 1 rfl (K0.s hC rfl (n' (re' (rt' rfl rfl rfl)))))))))
 ·intro g3 ih3 l m res hh
  exact N0.intro hC Tryz.func109 rfl rfl rfl (t' rfl (p' 1 rfl (K0.tokE 5 40 4 rfl (n' (S' (p' 1 rfl (qe' rfl trivial (A0.lenA _) (e' rfl (bk' (fw' (ih3 _ _ _ _ _ hh) rfl rfl rfl))))))))))
 ·intro g0 g3 ih0 ih3 l m1 out v10 res hh
  refine Y0.unroll (t' rfl (S' (ci' rfl hh (fun hh=>?_) (fun hh=>?_))))
  ·obtain ⟨x1,hx1,hh⟩:=bs' hh
   obtain ⟨x2,hx2,hh⟩:=bs' hh
   obtain ⟨c6,hh⟩:=U0 hh
   refine sk' (S' (bk' (s' rfl rfl (i' rfl (S0 hx1) (A0.idx hx1) rfl (q' rfl (K0.nf hC rfl (K0.s hC rfl (n' (P' 3 rfl (g' [0,1] (ih0 _ _ _ hx2) rfl rfl rfl rfl rfl rfl (K0.be hC rfl (A0.rows_map [x2.1]).symm (K0.ap hC rfl (rs:=A0.rows (out++[x2.1])) (A0.app out [x2.1]) (A0.sz out) (A0.sz [x2.1]) (T2 (A0.len out) (A0.len [x2.1]) c6) (e' rfl ?_)))))))))))))
   exact T' rfl (lw' (ih3 _ _ _ _ _ hh) rfl rfl rfl)
  refine ex' (t' rfl (re' ?_))
  obtain rfl:=oi' hh
  exact ⟨_,.d (.sl (A0.rows out)),[.row [.mp 1] 144,.map (.s (ebool.ents m1))],rfl,.osl,⟨⟨rfl,.refl _,rfl⟩,rfl,trivial⟩,rfl,rfl,rfl,rfl⟩
theorem Zk {e m res}(hh:A5 e m=some res):Br e m res:=(Zo).1 _ _ _ hh
theorem J10 {l m res}(hh:L7 l m=some res):Tp l m res:=(Zo).2.2.1 _ _ _ hh
mutual
def T3 (l:List C0)(m:List (Str×Bool)):Option (List C0×List (Str×Bool)):=
 F7 l m [] 0
 partial_fixpoint
def F7 (l:List C0)(m1:List (Str×Bool))(out:List C0)(v10:Int):Option (List C0×List (Str×Bool)):=
 if (decide (v10 < ((l).length:Int)))=true then
  idx l v10>>=fun x1=>
  Pj x1 m1>>=fun x2=>
  if (decide ((out.length+1) * 257≤140737488355328))=true then
   F7 l x2.2 (out++[x2.1]) (IntKind.i64.wrap (v10+1))
  else none
 else
  some (out,m1)
 partial_fixpoint
def Pj (s:C0)(m:List (Str×Bool)):Option (C0×List (Str×Bool)):=
 J7 s.Verb>>=fun x1=>
 if x1.1.name=true then
  Z7 s.Name m>>=fun x2=>
  Nb s x2.2 x2.1
 else
  Nb s m s.Name
 partial_fixpoint
def Nb (s:C0)(m1:List (Str×Bool))(o3_Name:Str):Option (C0×List (Str×Bool)):=
 A5 s.Place m1>>=fun x3=>
 A5 s.Value x3.2>>=fun x4=>
 L7 s.Args x4.2>>=fun x5=>
 Nd s.Numbers>>=fun x6=>
 T3 s.Then x5.2>>=fun x7=>
 T3 s.Else x7.2>>=fun x8=>
 some ((C0.mk s.Verb x3.1 x4.1 o3_Name x5.1 s.NV s.Low s.High x6 x7.1 x8.1),x8.2)
 partial_fixpoint
end
abbrev Up (l:List C0)(m:List (Str×Bool))(res:List C0×List (Str×Bool)):Prop:=N0 C 53 [.d (.sl (C0.rows l)),.bnd 54 [.agg [.clo 91 [.ref 0 0]]]] [.row [.mp 1] 144,.map (.s (ebool.ents m))] (Ret [.row [.mp 1] 144,.map (.s (ebool.ents res.2))] (.d (.sl (C0.rows res.1))))
abbrev Jx (l:List C0)(m1:List (Str×Bool))(out:List C0)(v10:Int)(res:List C0×List (Str×Bool)):Prop:=LM C 22 2 Tryz.f53 [1,1,0,1,4] [(1,.bnd 54 [.agg [.clo 91 [.ref 0 0]]]),(5,.osl 2 (C0.rows out)),(8,.d (.sl (C0.rows l))),(9,.d (.int .i64 ((l).length:Int))),(10,.d (.int .i64 v10))] [.row [.mp 1] 144,.map (.s (ebool.ents m1)),.tok 79 17] (Ret [.row [.mp 1] 144,.map (.s (ebool.ents res.2))] (.d (.sl (C0.rows res.1))))
abbrev C13 (s:C0)(m:List (Str×Bool))(res:C0×List (Str×Bool)):Prop:=N0 C 54 [.agg [.clo 91 [.ref 0 0]],.agg (C0.cells s)] [.row [.mp 1] 144,.map (.s (ebool.ents m))] (Ret [.row [.mp 1] 144,.map (.s (ebool.ents res.2))] (.agg (C0.cells res.1)))
abbrev Cz (s:C0)(m1:List (Str×Bool))(o3_Name:Str)(res:C0×List (Str×Bool)):Prop:=JM C 54 2 Tryz.f54 [1,1] [(2,.ref 2 0),(3,.ref 3 0),(4,.ref 4 0)] [.row [.mp 1] 144,.map (.s (ebool.ents m1)),.row [.clo 91 [.ref 0 0]] 92,.row [.d (.int .i64 s.Verb),.d (.int .i64 s.Place.Op),.d (.int .i64 s.Place.NV),.d (.str s.Place.Name),.d (.sl (A0.rows s.Place.Kids)),.d (.int .i64 s.Value.Op),.d (.int .i64 s.Value.NV),.d (.str s.Value.Name),.d (.sl (A0.rows s.Value.Kids)),.d (.str o3_Name),.d (.sl (A0.rows s.Args)),.d (.int .i64 s.NV),.d (.int .i64 s.Low),.d (.int .i64 s.High),.d (.sl (ei64.rows s.Numbers)),.d (.sl (C0.rows s.Then)),.d (.sl (C0.rows s.Else))] 79,.row [.d (.int .i64 0),.d (.int .i64 0),.d (.int .i64 0),.d (.str []),.full (A0.rows []),.d (.int .i64 0),.d (.int .i64 0),.d (.str []),.full (A0.rows []),.d (.str []),.full (A0.rows []),.d (.int .i64 0),.d (.int .i64 0),.d (.int .i64 0),.full (ei64.rows []),.full (C0.rows []),.full (C0.rows [])] 79] (Ret [.row [.mp 1] 144,.map (.s (ebool.ents res.2))] (.agg (C0.cells res.1)))
theorem Dz:(∀ l m res,T3 l m=some res→Up l m res)∧(∀ l m1 out v10 res,F7 l m1 out v10=some res→Jx l m1 out v10 res)∧(∀ s m res,Pj s m=some res→C13 s m res)∧(∀ s m1 o3_Name res,Nb s m1 o3_Name=some res→Cz s m1 o3_Name res):=by
 refine T3.mutual_partial_correctness _ _ _ _ ?_ ?_ ?_ ?_
 ·intro g1 ih1 l m res hh
  exact N0.intro hC Tryz.func53 rfl rfl rfl (t' rfl (p' 1 rfl (K0.tokE 5 79 17 rfl (n' (S' (p' 1 rfl (qe' rfl trivial (C0.lenA _) (e' rfl (bk' (fw' (ih1 _ _ _ _ _ hh) rfl rfl rfl))))))))))
 ·intro g1 g2 ih1 ih2 l m1 out v10 res hh
  refine Y0.unroll (t' rfl (S' (ci' rfl hh (fun hh=>?_) (fun hh=>?_))))
  ·obtain ⟨x1,hx1,hh⟩:=bs' hh
   obtain ⟨x2,hx2,hh⟩:=bs' hh
   obtain ⟨c5,hh⟩:=U0 hh
   refine sk' (S' (bk' (s' rfl rfl (i' rfl (S0 hx1) (C0.idx hx1) rfl (q' rfl (K0.nf hC rfl (K0.s hC rfl (n' (P' 3 rfl (g' [0,1] (ih2 _ _ _ hx2) rfl rfl rfl rfl rfl rfl (K0.be hC rfl (C0.rows_map [x2.1]).symm (K0.ap hC rfl (rs:=C0.rows (out++[x2.1])) (C0.app out [x2.1]) (C0.sz out) (C0.sz [x2.1]) (T2 (C0.len out) (C0.len [x2.1]) c5) (e' rfl ?_)))))))))))))
   exact T' rfl (lw' (ih1 _ _ _ _ _ hh) rfl rfl rfl)
  refine ex' (t' rfl (re' ?_))
  obtain rfl:=oi' hh
  exact ⟨_,.d (.sl (C0.rows out)),[.row [.mp 1] 144,.map (.s (ebool.ents m1))],rfl,.osl,⟨⟨rfl,.refl _,rfl⟩,rfl,trivial⟩,rfl,rfl,rfl,rfl⟩
 ·intro g3 ih3 s m res hh
  obtain ⟨x1,hx1,hh⟩:=bs' hh
  refine N0.intro hC Tryz.func54 rfl rfl rfl (s' rfl rfl (K0.n hC rfl (K0.n hC rfl (K0.nf hC rfl (n' (S' (p' 2 rfl (c' (Mn hx1) rfl rfl (o' 3 rfl (K0.n hC rfl (K0.s hC rfl (e' rfl (t' rfl (ci' rfl hh (fun hh=>?_) (fun hh=>?_)))))))))))))))
  ·obtain ⟨x2,hx2,hh⟩:=bs' hh
   exact P' 4 rfl (g' [0,1] (Gl hx2) rfl rfl rfl rfl rfl rfl (q' rfl (K0.s hC rfl (n' (ew' (ih3 _ _ _ _ hh) rfl rfl rfl)))))
  exact sk' (ew' (ih3 _ _ _ _ hh) rfl rfl rfl)
 ·intro g0 ih0 s m1 o3_Name res hh
  obtain ⟨x3,hx3,hh⟩:=bs' hh
  obtain ⟨x4,hx4,hh⟩:=bs' hh
  obtain ⟨x5,hx5,hh⟩:=bs' hh
  obtain ⟨x6,hx6,hh⟩:=bs' hh
  obtain ⟨x7,hx7,hh⟩:=bs' hh
  obtain ⟨x8,hx8,hh⟩:=bs' hh
  cases hh
  refine S' ?_
  refine AEx.drawL hC 9 [3,7] [] [[.row [.mp 1] 144,.map (.s (ebool.ents m1)),.row [.clo 91 [.ref 0 0]] 92,.row [.d (.int .i64 s.Verb),.d (.int .i64 s.Place.Op),.d (.int .i64 s.Place.NV),.d (.str s.Place.Name),.d (.sl (A0.rows s.Place.Kids)),.d (.int .i64 s.Value.Op),.d (.int .i64 s.Value.NV),.d (.str s.Value.Name),.d (.sl (A0.rows s.Value.Kids)),.d (.str o3_Name),.d (.sl (A0.rows s.Args)),.d (.int .i64 s.NV),.d (.int .i64 s.Low),.d (.int .i64 s.High),.d (.sl (ei64.rows s.Numbers)),.d (.sl (C0.rows s.Then)),.d (.sl (C0.rows s.Else))] 79,.row [.d (.int .i64 0),.d (.int .i64 0),.d (.int .i64 0),.d (.str []),.full (A0.rows []),.d (.int .i64 0),.d (.int .i64 0),.d (.str []),.full (A0.rows []),.d (.str []),.full (A0.rows []),.d (.int .i64 0),.d (.int .i64 0),.d (.int .i64 0),.full (ei64.rows []),.full (C0.rows []),.full (C0.rows [])] 79],[.row [.mp 1] 144,.map (.s (ebool.ents x3.2)),.row [.clo 91 [.ref 0 0]] 92,.row [.d (.int .i64 s.Verb),.d (.int .i64 s.Place.Op),.d (.int .i64 s.Place.NV),.d (.str s.Place.Name),.d (.sl (A0.rows s.Place.Kids)),.d (.int .i64 s.Value.Op),.d (.int .i64 s.Value.NV),.d (.str s.Value.Name),.d (.sl (A0.rows s.Value.Kids)),.d (.str o3_Name),.d (.sl (A0.rows s.Args)),.d (.int .i64 s.NV),.d (.int .i64 s.Low),.d (.int .i64 s.High),.d (.sl (ei64.rows s.Numbers)),.d (.sl (C0.rows s.Then)),.d (.sl (C0.rows s.Else))] 79,.row [.d (.int .i64 0),.d (.int .i64 0),.d (.int .i64 0),.d (.str []),.full (A0.rows []),.d (.int .i64 0),.d (.int .i64 0),.d (.str []),.full (A0.rows []),.d (.str []),.full (A0.rows []),.d (.int .i64 0),.d (.int .i64 0),.d (.int .i64 0),.full (ei64.rows []),.full (C0.rows []),.full (C0.rows [])] 79],[.row [.mp 1] 144,.map (.s (ebool.ents x4.2)),.row [.clo 91 [.ref 0 0]] 92,.row [.d (.int .i64 s.Verb),.d (.int .i64 s.Place.Op),.d (.int .i64 s.Place.NV),.d (.str s.Place.Name),.d (.sl (A0.rows s.Place.Kids)),.d (.int .i64 s.Value.Op),.d (.int .i64 s.Value.NV),.d (.str s.Value.Name),.d (.sl (A0.rows s.Value.Kids)),.d (.str o3_Name),.d (.sl (A0.rows s.Args)),.d (.int .i64 s.NV),.d (.int .i64 s.Low),.d (.int .i64 s.High),.d (.sl (ei64.rows s.Numbers)),.d (.sl (C0.rows s.Then)),.d (.sl (C0.rows s.Else))] 79,.row [.d (.int .i64 0),.d (.int .i64 0),.d (.int .i64 0),.d (.str []),.full (A0.rows []),.d (.int .i64 0),.d (.int .i64 0),.d (.str []),.full (A0.rows []),.d (.str []),.full (A0.rows []),.d (.int .i64 0),.d (.int .i64 0),.d (.int .i64 0),.full (ei64.rows []),.full (C0.rows []),.full (C0.rows [])] 79]] rfl rfl rfl rfl rfl rfl rfl rfl rfl rfl ?_
  refine AS.q hC rfl rfl rfl rfl (AS.q hC rfl rfl rfl rfl (AS.q hC rfl rfl rfl rfl (AS.g [0,1] (Zk hx3) rfl rfl rfl rfl rfl rfl rfl rfl rfl rfl rfl rfl (AS.q hC rfl rfl rfl rfl (AS.q hC rfl rfl rfl rfl (AS.q hC rfl rfl rfl rfl (AS.g [0,1] (Zk hx4) rfl rfl rfl rfl rfl rfl rfl rfl rfl rfl rfl rfl (AS.q hC rfl rfl rfl rfl (AS.nil (K0.s hC rfl (q' rfl (K0.s hC rfl (n' ?_)))))))))))))
  refine p' 4 rfl (g' [0,1] (J10 hx5) rfl rfl rfl rfl rfl rfl (q' rfl (K0.s hC rfl (n' (p' 2 rfl (c' (Wo hx6) rfl rfl (q' rfl (K0.s hC rfl (n' (S' ?_))))))))))
  refine AEx.drawL hC 11 [4,9] [] [[.row [.mp 1] 144,.map (.s (ebool.ents x5.2)),.row [.clo 91 [.ref 0 0]] 92,.row [.d (.int .i64 s.Verb),.d (.int .i64 x3.1.Op),.d (.int .i64 x3.1.NV),.d (.str x3.1.Name),.d (.sl (A0.rows x3.1.Kids)),.d (.int .i64 x4.1.Op),.d (.int .i64 x4.1.NV),.d (.str x4.1.Name),.d (.sl (A0.rows x4.1.Kids)),.d (.str o3_Name),.d (.sl (A0.rows x5.1)),.d (.int .i64 s.NV),.d (.int .i64 s.Low),.d (.int .i64 s.High),.d (.sl (ei64.rows x6)),.d (.sl (C0.rows s.Then)),.d (.sl (C0.rows s.Else))] 79,.row [.d (.int .i64 0),.d (.int .i64 0),.d (.int .i64 0),.d (.str []),.full (A0.rows []),.d (.int .i64 0),.d (.int .i64 0),.d (.str []),.full (A0.rows []),.d (.str []),.full (A0.rows []),.d (.int .i64 0),.d (.int .i64 0),.d (.int .i64 0),.full (ei64.rows []),.full (C0.rows []),.full (C0.rows [])] 79],[.row [.mp 1] 144,.map (.s (ebool.ents x7.2)),.row [.clo 91 [.ref 0 0]] 92,.row [.d (.int .i64 s.Verb),.d (.int .i64 x3.1.Op),.d (.int .i64 x3.1.NV),.d (.str x3.1.Name),.d (.sl (A0.rows x3.1.Kids)),.d (.int .i64 x4.1.Op),.d (.int .i64 x4.1.NV),.d (.str x4.1.Name),.d (.sl (A0.rows x4.1.Kids)),.d (.str o3_Name),.d (.sl (A0.rows x5.1)),.d (.int .i64 s.NV),.d (.int .i64 s.Low),.d (.int .i64 s.High),.d (.sl (ei64.rows x6)),.d (.sl (C0.rows s.Then)),.d (.sl (C0.rows s.Else))] 79,.row [.d (.int .i64 0),.d (.int .i64 0),.d (.int .i64 0),.d (.str []),.full (A0.rows []),.d (.int .i64 0),.d (.int .i64 0),.d (.str []),.full (A0.rows []),.d (.str []),.full (A0.rows []),.d (.int .i64 0),.d (.int .i64 0),.d (.int .i64 0),.full (ei64.rows []),.full (C0.rows []),.full (C0.rows [])] 79],[.row [.mp 1] 144,.map (.s (ebool.ents x8.2)),.row [.clo 91 [.ref 0 0]] 92,.row [.d (.int .i64 s.Verb),.d (.int .i64 x3.1.Op),.d (.int .i64 x3.1.NV),.d (.str x3.1.Name),.d (.sl (A0.rows x3.1.Kids)),.d (.int .i64 x4.1.Op),.d (.int .i64 x4.1.NV),.d (.str x4.1.Name),.d (.sl (A0.rows x4.1.Kids)),.d (.str o3_Name),.d (.sl (A0.rows x5.1)),.d (.int .i64 s.NV),.d (.int .i64 s.Low),.d (.int .i64 s.High),.d (.sl (ei64.rows x6)),.d (.sl (C0.rows s.Then)),.d (.sl (C0.rows s.Else))] 79,.row [.d (.int .i64 0),.d (.int .i64 0),.d (.int .i64 0),.d (.str []),.full (A0.rows []),.d (.int .i64 0),.d (.int .i64 0),.d (.str []),.full (A0.rows []),.d (.str []),.full (A0.rows []),.d (.int .i64 0),.d (.int .i64 0),.d (.int .i64 0),.full (ei64.rows []),.full (C0.rows []),.full (C0.rows [])] 79]] rfl rfl rfl rfl rfl rfl rfl rfl rfl rfl ?_
  refine AS.q hC rfl rfl rfl rfl (AS.q hC rfl rfl rfl rfl (AS.q hC rfl rfl rfl rfl (AS.q hC rfl rfl rfl rfl (AS.g [0,1] (ih0 _ _ _ hx7) rfl rfl rfl rfl rfl rfl rfl rfl rfl rfl rfl rfl (AS.q hC rfl rfl rfl rfl (AS.q hC rfl rfl rfl rfl (AS.q hC rfl rfl rfl rfl (AS.q hC rfl rfl rfl rfl (AS.g [0,1] (ih0 _ _ _ hx8) rfl rfl rfl rfl rfl rfl rfl rfl rfl rfl rfl rfl (AS.q hC rfl rfl rfl rfl (AS.nil (K0.s hC rfl (q' rfl ?_)))))))))))))
  exact K0.s hC rfl (n' (p' 1 rfl (K0.s hC rfl (n' (re' (rt' rfl rfl rfl))))))
theorem Bp {l m res}(hh:T3 l m=some res):Up l m res:=(Dz).1 _ _ _ hh
mutual
def W5 (l:List D0)(m:List (Str×Bool)):Option (List D0×List (Str×Bool)):=
 H7 l m [] 0
 partial_fixpoint
def H7 (l:List D0)(m1:List (Str×Bool))(out:List D0)(v10:Int):Option (List D0×List (Str×Bool)):=
 if (decide (v10 < ((l).length:Int)))=true then
  idx l v10>>=fun x1=>
  Qj x1 m1>>=fun x2=>
  if (decide ((out.length+1) * 257≤140737488355328))=true then
   H7 l x2.2 (out++[x2.1]) (IntKind.i64.wrap (v10+1))
  else none
 else
  some (out,m1)
 partial_fixpoint
def Qj (d:D0)(m:List (Str×Bool)):Option (D0×List (Str×Bool)):=
 Z7 d.Name m>>=fun x1=>
 D9 d.TypeV x1.2>>=fun x2=>
 A5 d.Value x2.2>>=fun x3=>
 W5 d.Params x3.2>>=fun x4=>
 W5 d.Vars x4.2>>=fun x5=>
 T3 d.Body x5.2>>=fun x6=>
 some ((D0.mk d.Kind x1.1 x2.1 d.Init x3.1 x4.1 x5.1 x6.1),x6.2)
 partial_fixpoint
end
abbrev Vp (l:List D0)(m:List (Str×Bool))(res:List D0×List (Str×Bool)):Prop:=N0 C 51 [.d (.sl (D0.rows l)),.bnd 52 [.agg [.clo 91 [.ref 0 0]]]] [.row [.mp 1] 144,.map (.s (ebool.ents m))] (Ret [.row [.mp 1] 144,.map (.s (ebool.ents res.2))] (.d (.sl (D0.rows res.1))))
abbrev Kx (l:List D0)(m1:List (Str×Bool))(out:List D0)(v10:Int)(res:List D0×List (Str×Bool)):Prop:=LM C 22 2 Tryz.f51 [1,1,0,1,4] [(1,.bnd 52 [.agg [.clo 91 [.ref 0 0]]]),(5,.osl 2 (D0.rows out)),(8,.d (.sl (D0.rows l))),(9,.d (.int .i64 ((l).length:Int))),(10,.d (.int .i64 v10))] [.row [.mp 1] 144,.map (.s (ebool.ents m1)),.tok 75 17] (Ret [.row [.mp 1] 144,.map (.s (ebool.ents res.2))] (.d (.sl (D0.rows res.1))))
abbrev D13 (d:D0)(m:List (Str×Bool))(res:D0×List (Str×Bool)):Prop:=N0 C 52 [.agg [.clo 91 [.ref 0 0]],.agg (D0.cells d)] [.row [.mp 1] 144,.map (.s (ebool.ents m))] (Ret [.row [.mp 1] 144,.map (.s (ebool.ents res.2))] (.agg (D0.cells res.1)))
theorem Ez:(∀ l m res,W5 l m=some res→Vp l m res)∧(∀ l m1 out v10 res,H7 l m1 out v10=some res→Kx l m1 out v10 res)∧(∀ d m res,Qj d m=some res→D13 d m res):=by
 refine W5.mutual_partial_correctness _ _ _ ?_ ?_ ?_
 ·intro g1 ih1 l m res hh
  exact N0.intro hC Tryz.func51 rfl rfl rfl (t' rfl (p' 1 rfl (K0.tokE 5 75 17 rfl (n' (S' (p' 1 rfl (qe' rfl trivial (D0.lenA _) (e' rfl (bk' (fw' (ih1 _ _ _ _ _ hh) rfl rfl rfl))))))))))
 ·intro g1 g2 ih1 ih2 l m1 out v10 res hh
  refine Y0.unroll (t' rfl (S' (ci' rfl hh (fun hh=>?_) (fun hh=>?_))))
  ·obtain ⟨x1,hx1,hh⟩:=bs' hh
   obtain ⟨x2,hx2,hh⟩:=bs' hh
   obtain ⟨c5,hh⟩:=U0 hh
   refine sk' (S' (bk' (s' rfl rfl (i' rfl (S0 hx1) (D0.idx hx1) rfl (q' rfl (K0.nf hC rfl (K0.s hC rfl (n' (P' 3 rfl (g' [0,1] (ih2 _ _ _ hx2) rfl rfl rfl rfl rfl rfl (K0.be hC rfl (D0.rows_map [x2.1]).symm (K0.ap hC rfl (rs:=D0.rows (out++[x2.1])) (D0.app out [x2.1]) (D0.sz out) (D0.sz [x2.1]) (T2 (D0.len out) (D0.len [x2.1]) c5) (e' rfl ?_)))))))))))))
   exact T' rfl (lw' (ih1 _ _ _ _ _ hh) rfl rfl rfl)
  refine ex' (t' rfl (re' ?_))
  obtain rfl:=oi' hh
  exact ⟨_,.d (.sl (D0.rows out)),[.row [.mp 1] 144,.map (.s (ebool.ents m1))],rfl,.osl,⟨⟨rfl,.refl _,rfl⟩,rfl,trivial⟩,rfl,rfl,rfl,rfl⟩
 ·intro g0 ih0 d m res hh
  obtain ⟨x1,hx1,hh⟩:=bs' hh
  obtain ⟨x2,hx2,hh⟩:=bs' hh
  obtain ⟨x3,hx3,hh⟩:=bs' hh
  obtain ⟨x4,hx4,hh⟩:=bs' hh
  obtain ⟨x5,hx5,hh⟩:=bs' hh
  obtain ⟨x6,hx6,hh⟩:=bs' hh
  cases hh
  refine N0.intro hC Tryz.func52 rfl rfl rfl (s' rfl rfl (K0.n hC rfl (K0.n hC rfl (K0.nf hC rfl (n' (p' 4 rfl (g' [0,1] (Gl hx1) rfl rfl rfl rfl rfl rfl (q' rfl (K0.s hC rfl (n' (S' ?_)))))))))))
  refine AEx.drawL hC 9 [3,7] [] [[.row [.mp 1] 144,.map (.s (ebool.ents x1.2)),.row [.clo 91 [.ref 0 0]] 92,.row [.d (.int .i64 d.Kind),.d (.str x1.1),.d (.int .i64 d.TypeV.Kind),.d (.int .i64 d.TypeV.Low),.d (.int .i64 d.TypeV.High),.d (.int .i64 d.TypeV.Size),.d (.str d.TypeV.Name),.d (.sl (estr.rows d.TypeV.Names)),.d (.sl (F0.rows d.TypeV.Of)),.d (.int .i64 d.Init),.d (.int .i64 d.Value.Op),.d (.int .i64 d.Value.NV),.d (.str d.Value.Name),.d (.sl (A0.rows d.Value.Kids)),.d (.sl (D0.rows d.Params)),.d (.sl (D0.rows d.Vars)),.d (.sl (C0.rows d.Body))] 75,.row [.d (.int .i64 0),.d (.str []),.d (.int .i64 0),.d (.int .i64 0),.d (.int .i64 0),.d (.int .i64 0),.d (.str []),.full (estr.rows []),.full (F0.rows []),.d (.int .i64 0),.d (.int .i64 0),.d (.int .i64 0),.d (.str []),.full (A0.rows []),.full (D0.rows []),.full (D0.rows []),.full (C0.rows [])] 75],[.row [.mp 1] 144,.map (.s (ebool.ents x2.2)),.row [.clo 91 [.ref 0 0]] 92,.row [.d (.int .i64 d.Kind),.d (.str x1.1),.d (.int .i64 d.TypeV.Kind),.d (.int .i64 d.TypeV.Low),.d (.int .i64 d.TypeV.High),.d (.int .i64 d.TypeV.Size),.d (.str d.TypeV.Name),.d (.sl (estr.rows d.TypeV.Names)),.d (.sl (F0.rows d.TypeV.Of)),.d (.int .i64 d.Init),.d (.int .i64 d.Value.Op),.d (.int .i64 d.Value.NV),.d (.str d.Value.Name),.d (.sl (A0.rows d.Value.Kids)),.d (.sl (D0.rows d.Params)),.d (.sl (D0.rows d.Vars)),.d (.sl (C0.rows d.Body))] 75,.row [.d (.int .i64 0),.d (.str []),.d (.int .i64 0),.d (.int .i64 0),.d (.int .i64 0),.d (.int .i64 0),.d (.str []),.full (estr.rows []),.full (F0.rows []),.d (.int .i64 0),.d (.int .i64 0),.d (.int .i64 0),.d (.str []),.full (A0.rows []),.full (D0.rows []),.full (D0.rows []),.full (C0.rows [])] 75],[.row [.mp 1] 144,.map (.s (ebool.ents x3.2)),.row [.clo 91 [.ref 0 0]] 92,.row [.d (.int .i64 d.Kind),.d (.str x1.1),.d (.int .i64 d.TypeV.Kind),.d (.int .i64 d.TypeV.Low),.d (.int .i64 d.TypeV.High),.d (.int .i64 d.TypeV.Size),.d (.str d.TypeV.Name),.d (.sl (estr.rows d.TypeV.Names)),.d (.sl (F0.rows d.TypeV.Of)),.d (.int .i64 d.Init),.d (.int .i64 d.Value.Op),.d (.int .i64 d.Value.NV),.d (.str d.Value.Name),.d (.sl (A0.rows d.Value.Kids)),.d (.sl (D0.rows d.Params)),.d (.sl (D0.rows d.Vars)),.d (.sl (C0.rows d.Body))] 75,.row [.d (.int .i64 0),.d (.str []),.d (.int .i64 0),.d (.int .i64 0),.d (.int .i64 0),.d (.int .i64 0),.d (.str []),.full (estr.rows []),.full (F0.rows []),.d (.int .i64 0),.d (.int .i64 0),.d (.int .i64 0),.d (.str []),.full (A0.rows []),.full (D0.rows []),.full (D0.rows []),.full (C0.rows [])] 75]] rfl rfl rfl rfl rfl rfl rfl rfl rfl rfl ?_
  refine AS.q hC rfl rfl rfl rfl (AS.q hC rfl rfl rfl rfl (AS.q hC rfl rfl rfl rfl (AS.g [0,1] (B13 hx2) rfl rfl rfl rfl rfl rfl rfl rfl rfl rfl rfl rfl (AS.q hC rfl rfl rfl rfl (AS.q hC rfl rfl rfl rfl (AS.q hC rfl rfl rfl rfl (AS.g [0,1] (Zk hx3) rfl rfl rfl rfl rfl rfl rfl rfl rfl rfl rfl rfl (AS.q hC rfl rfl rfl rfl (AS.nil (K0.s hC rfl (q' rfl (K0.s hC rfl (n' ?_)))))))))))))
  refine S' ?_
  refine AEx.drawL hC 11 [4,9] [] [[.row [.mp 1] 144,.map (.s (ebool.ents x3.2)),.row [.clo 91 [.ref 0 0]] 92,.row [.d (.int .i64 d.Kind),.d (.str x1.1),.d (.int .i64 x2.1.Kind),.d (.int .i64 x2.1.Low),.d (.int .i64 x2.1.High),.d (.int .i64 x2.1.Size),.d (.str x2.1.Name),.d (.sl (estr.rows x2.1.Names)),.d (.sl (F0.rows x2.1.Of)),.d (.int .i64 d.Init),.d (.int .i64 x3.1.Op),.d (.int .i64 x3.1.NV),.d (.str x3.1.Name),.d (.sl (A0.rows x3.1.Kids)),.d (.sl (D0.rows d.Params)),.d (.sl (D0.rows d.Vars)),.d (.sl (C0.rows d.Body))] 75,.row [.d (.int .i64 0),.d (.str []),.d (.int .i64 0),.d (.int .i64 0),.d (.int .i64 0),.d (.int .i64 0),.d (.str []),.full (estr.rows []),.full (F0.rows []),.d (.int .i64 0),.d (.int .i64 0),.d (.int .i64 0),.d (.str []),.full (A0.rows []),.full (D0.rows []),.full (D0.rows []),.full (C0.rows [])] 75],[.row [.mp 1] 144,.map (.s (ebool.ents x4.2)),.row [.clo 91 [.ref 0 0]] 92,.row [.d (.int .i64 d.Kind),.d (.str x1.1),.d (.int .i64 x2.1.Kind),.d (.int .i64 x2.1.Low),.d (.int .i64 x2.1.High),.d (.int .i64 x2.1.Size),.d (.str x2.1.Name),.d (.sl (estr.rows x2.1.Names)),.d (.sl (F0.rows x2.1.Of)),.d (.int .i64 d.Init),.d (.int .i64 x3.1.Op),.d (.int .i64 x3.1.NV),.d (.str x3.1.Name),.d (.sl (A0.rows x3.1.Kids)),.d (.sl (D0.rows d.Params)),.d (.sl (D0.rows d.Vars)),.d (.sl (C0.rows d.Body))] 75,.row [.d (.int .i64 0),.d (.str []),.d (.int .i64 0),.d (.int .i64 0),.d (.int .i64 0),.d (.int .i64 0),.d (.str []),.full (estr.rows []),.full (F0.rows []),.d (.int .i64 0),.d (.int .i64 0),.d (.int .i64 0),.d (.str []),.full (A0.rows []),.full (D0.rows []),.full (D0.rows []),.full (C0.rows [])] 75],[.row [.mp 1] 144,.map (.s (ebool.ents x5.2)),.row [.clo 91 [.ref 0 0]] 92,.row [.d (.int .i64 d.Kind),.d (.str x1.1),.d (.int .i64 x2.1.Kind),.d (.int .i64 x2.1.Low),.d (.int .i64 x2.1.High),.d (.int .i64 x2.1.Size),.d (.str x2.1.Name),.d (.sl (estr.rows x2.1.Names)),.d (.sl (F0.rows x2.1.Of)),.d (.int .i64 d.Init),.d (.int .i64 x3.1.Op),.d (.int .i64 x3.1.NV),.d (.str x3.1.Name),.d (.sl (A0.rows x3.1.Kids)),.d (.sl (D0.rows d.Params)),.d (.sl (D0.rows d.Vars)),.d (.sl (C0.rows d.Body))] 75,.row [.d (.int .i64 0),.d (.str []),.d (.int .i64 0),.d (.int .i64 0),.d (.int .i64 0),.d (.int .i64 0),.d (.str []),.full (estr.rows []),.full (F0.rows []),.d (.int .i64 0),.d (.int .i64 0),.d (.int .i64 0),.d (.str []),.full (A0.rows []),.full (D0.rows []),.full (D0.rows []),.full (C0.rows [])] 75]] rfl rfl rfl rfl rfl rfl rfl rfl rfl rfl ?_
  refine AS.q hC rfl rfl rfl rfl (AS.q hC rfl rfl rfl rfl (AS.q hC rfl rfl rfl rfl (AS.q hC rfl rfl rfl rfl (AS.g [0,1] (ih0 _ _ _ hx4) rfl rfl rfl rfl rfl rfl rfl rfl rfl rfl rfl rfl (AS.q hC rfl rfl rfl rfl (AS.q hC rfl rfl rfl rfl (AS.q hC rfl rfl rfl rfl (AS.q hC rfl rfl rfl rfl (AS.g [0,1] (ih0 _ _ _ hx5) rfl rfl rfl rfl rfl rfl rfl rfl rfl rfl rfl rfl (AS.q hC rfl rfl rfl rfl (AS.nil (K0.s hC rfl (q' rfl ?_)))))))))))))
  exact K0.s hC rfl (n' (p' 4 rfl (g' [0,1] (Bp hx6) rfl rfl rfl rfl rfl rfl (q' rfl (K0.s hC rfl (n' (p' 1 rfl (K0.s hC rfl (n' (re' (rt' rfl rfl rfl)))))))))))
theorem K10 {l m res}(hh:W5 l m=some res):Vp l m res:=(Ez).1 _ _ _ hh
def Co (p:O0):Option (List Str):=
 W5 p.Decls []>>=fun x1=>
 T3 p.Body x1.2>>=fun x2=>
 if (decide (x2.2.length * 17≤140737488355328))=true then
  some (Wi x2.2)
 else none
theorem Y1d {p res}(hh:Co p=some res):N0 C 44 [.agg (O0.cells p)] [] (Ret [] (.d (.sl (estr.rows res)))):=by
 unfold Co at hh
 obtain ⟨x1,hx1,hh⟩:=bs' hh
 obtain ⟨x2,hx2,hh⟩:=bs' hh
 obtain ⟨c5,hh⟩:=U0 hh
 cases hh
 refine N0.intro hC Tryz.func44 rfl rfl rfl (s' rfl rfl (K0.n hC rfl (e' rfl (s' rfl rfl (K0.w rfl (K0.n hC rfl (K0.s hC rfl (n' (p' 2 rfl (K0.n hC rfl (K0.s hC rfl (n' (p' 4 rfl ?_)))))))))))))
 refine g' [2,1] (K10 hx1) rfl rfl rfl rfl rfl rfl (n' (p' 4 rfl (g' [2,1] (Bp hx2) rfl rfl rfl rfl rfl rfl (n' ?_))))
 exact AEx.keysort hC ⟨20,5,21,22,23,24,25,26,6,27,28,29,30,31,28,9,144,92,.tmp 3,some 32⟩ G1u rfl rfl rfl rfl rfl rfl rfl rfl rfl rfl rfl rfl (by rw [show ebool.ents x2.2=Gk ebool.row x2.2 from rfl,C1n]; exact c5) (by rw [show ebool.ents x2.2=Gk ebool.row x2.2 from rfl,B1n]; rfl) (t' rfl (re' (rt' rfl rfl rfl)))
def Cm (k:Int):Option Bool:=
 some (bif (decide (k≥0)) then (decide (k≤6)) else false)
theorem Gw {k res}(hh:Cm k=some res):N0 C 181 [.d (.int .i64 k)] [] (Ret [] (.d (.bool res))):=by
 unfold Cm at hh
 cases hh
 exact N0.intro hC Tryz.func181 rfl rfl rfl (t' rfl (sg' 7 rfl (G' 4 rfl (a1' rfl (pa' rfl (a0' rfl (an' (n' (re' (rt' rfl rfl rfl))))))))))
mutual
def P8 (a:F0)(b:F0):Option Bool:=
 if (bif (bif (bif (bif (bif (bif (a.Kind != b.Kind) then true else (a.Low != b.Low)) then true else (a.High != b.High)) then true else (a.Size != b.Size)) then true else (!(a.Name == b.Name))) then true else (((a.Names).length:Int) != ((b.Names).length:Int))) then true else (((a.Of).length:Int) != ((b.Of).length:Int)))=true then
  some false
 else
  Kc a b 0
 partial_fixpoint
def Kc (a:F0)(b:F0)(i:Int):Option Bool:=
 if (decide (i < ((a.Names).length:Int)))=true then
  idx a.Names i>>=fun x1=>
  idx b.Names i>>=fun x2=>
  if (!(x1 == x2))=true then
   some false
  else
   Kc a b (IntKind.i64.wrap (i+1))
 else
  E9 a b 0
 partial_fixpoint
def E9 (a:F0)(b:F0)(i1:Int):Option Bool:=
 if (decide (i1 < ((a.Of).length:Int)))=true then
  idx a.Of i1>>=fun x3=>
  idx b.Of i1>>=fun x4=>
  P8 x3 x4>>=fun x5=>
  if (!x5)=true then
   some false
  else
   E9 a b (IntKind.i64.wrap (i1+1))
 else
  some true
 partial_fixpoint
end
abbrev Hw (a:F0)(b:F0)(res:Bool):Prop:=N0 C 25 [.agg (F0.cells a),.agg (F0.cells b)] [] (Ret [] (.d (.bool res)))
abbrev V14 (a:F0)(b:F0)(i:Int)(res:Bool):Prop:=LM C 95 0 Tryz.f25 [1,1,0,1,4] [(2,.ref 0 0),(3,.ref 1 0),(5,.d (.int .i64 i))] [.row (F0.cells a) 48,.row (F0.cells b) 48] (Ret [] (.d (.bool res)))
abbrev W14 (a:F0)(b:F0)(i1:Int)(res:Bool):Prop:=LM C 95 0 Tryz.f25 [1,1,1,0,1,4] [(2,.ref 0 0),(3,.ref 1 0),(6,.d (.int .i64 i1))] [.row (F0.cells a) 48,.row (F0.cells b) 48] (Ret [] (.d (.bool res)))
theorem B17:(∀ a b res,P8 a b=some res→Hw a b res)∧(∀ a b i res,Kc a b i=some res→V14 a b i res)∧(∀ a b i1 res,E9 a b i1=some res→W14 a b i1 res):=by
 refine P8.mutual_partial_correctness _ _ _ ?_ ?_ ?_
 ·intro g1 ih1 a b res hh
  refine N0.intro hC Tryz.func25 rfl rfl rfl (s' rfl rfl (K0.n hC rfl (K0.n hC rfl (e' rfl (S' (sg' 51 rfl (G' 7 rfl (a1' rfl (a0' rfl (a1' rfl (a2' rfl (po' rfl (G' 2 rfl ?_)))))))))))))
  refine a1' rfl (a0' rfl (a1' rfl (a2' rfl (po' rfl (G' 2 rfl (a1' rfl (a0' rfl (a1' rfl (a2' rfl (po' rfl (G' 2 rfl (a1' rfl (a0' rfl ?_)))))))))))))
  refine a1' rfl (a2' rfl (po' rfl (G' 2 rfl (a1' rfl (AG.qe hC rfl (fun hg=>⟨⟨hg,trivial⟩,trivial⟩) (estr.lenA _) (a0' rfl (a1' rfl (AG.qe hC rfl (fun hg=>⟨⟨hg,trivial⟩,trivial⟩) (estr.lenA _) (a2' rfl (po' rfl (G' 2 rfl (a1' rfl (AG.qe hC rfl (fun hg=>⟨⟨hg,trivial⟩,trivial⟩) (F0.lenA _) ?_)))))))))))))
  refine a0' rfl (a1' rfl (AG.qe hC rfl (fun hg=>⟨⟨hg,trivial⟩,trivial⟩) (F0.lenA _) (a2' rfl (po' rfl (an' (n' (ci' rfl hh (fun hh=>?_) (fun hh=>?_))))))))
  ·cases hh
   exact t' rfl (re' (rt' rfl rfl rfl))
  exact sk' (S' (t' rfl (bk' (fw' (ih1 _ _ _ _ hh) rfl rfl rfl))))
 ·intro g1 g2 ih1 ih2 a b i res hh
  refine Y0.unroll (S' (p' 3 rfl (qe' rfl trivial (estr.lenA _) (e' rfl (ci' rfl hh (fun hh=>?_) (fun hh=>?_))))))
  ·obtain ⟨x1,hx1,hh⟩:=bs' hh
   obtain ⟨x2,hx2,hh⟩:=bs' hh
   refine sk' (S' (bk' (S' (AEx.draw hC 11 rfl rfl rfl (O' 3 rfl (AQ.i hC rfl (S0 hx1) (estr.idx hx1) rfl (O' 4 rfl (AQ.i hC rfl (S0 hx2) (estr.idx hx2) rfl (E' rfl (n' (ci' rfl hh (fun hh=>?_) (fun hh=>?_))))))))))))
   ·cases hh
    exact t' rfl (re' (rt' rfl rfl rfl))
   exact sk' (T' rfl (lw' (ih1 _ _ _ _ hh) rfl rfl rfl))
  exact ex' (S' (t' rfl (bk' (fw' (ih2 _ _ _ _ hh) rfl rfl rfl))))
 ·intro g0 g2 ih0 ih2 a b i1 res hh
  refine Y0.unroll (S' (p' 3 rfl (qe' rfl trivial (F0.lenA _) (e' rfl (ci' rfl hh (fun hh=>?_) (fun hh=>?_))))))
  ·obtain ⟨x3,hx3,hh⟩:=bs' hh
   obtain ⟨x4,hx4,hh⟩:=bs' hh
   obtain ⟨x5,hx5,hh⟩:=bs' hh
   refine sk' (S' (bk' (S' (AEx.draw hC 12 rfl rfl rfl (O' 3 rfl (AQ.i hC rfl (S0 hx3) (F0.idx hx3) rfl (O' 4 rfl (AQ.i hC rfl (S0 hx4) (F0.idx hx4) rfl (Q' rfl (Qc' (ih0 _ _ _ hx5) rfl rfl (E' rfl (n' (ci' rfl hh (fun hh=>?_) (fun hh=>?_))))))))))))))
   ·cases hh
    exact t' rfl (re' (rt' rfl rfl rfl))
   exact sk' (T' rfl (lw' (ih2 _ _ _ _ hh) rfl rfl rfl))
  cases hh
  exact ex' (t' rfl (re' (rt' rfl rfl rfl)))
theorem Uu {a b res}(hh:P8 a b=some res):Hw a b res:=(B17).1 _ _ _ hh
def Dm (t:F0):Option Bool:=
 P8 t (F0.mk 0 0 0 0 [] [] [])>>=fun x1=>
 some x1
theorem R1a {t res}(hh:Dm t=some res):N0 C 211 [.agg (F0.cells t)] [] (Ret [] (.d (.bool res))):=by
 unfold Dm at hh
 obtain ⟨x1,hx1,hh⟩:=bs' hh
 cases hh
 exact N0.intro hC Tryz.func211 rfl rfl rfl (s' rfl rfl (K0.n hC rfl (e' rfl (p' 2 rfl (c' (Uu hx1) rfl rfl (e' rfl (re' (rt' rfl rfl rfl))))))))
mutual
def La (t:F0):Option Int:=
 Lc t 1 0
 partial_fixpoint
def Lc (t:F0)(n:Int)(i:Int):Option Int:=
 if (decide (i < ((t.Of).length:Int)))=true then
  idx t.Of i>>=fun x1=>
  La x1>>=fun x2=>
  Lc t (IntKind.i64.wrap (n+x2)) (IntKind.i64.wrap (i+1))
 else
  some n
 partial_fixpoint
end
abbrev Iw (t:F0)(res:Int):Prop:=N0 C 212 [.agg (F0.cells t)] [] (Ret [] (.d (.int .i64 res)))
abbrev X14 (t:F0)(n:Int)(i:Int)(res:Int):Prop:=LM C 21 0 Tryz.f212 [1,1,0,1,4] [(1,.ref 0 0),(3,.d (.int .i64 n)),(4,.d (.int .i64 i))] [.row (F0.cells t) 48] (Ret [] (.d (.int .i64 res)))
theorem C17:(∀ t res,La t=some res→Iw t res)∧(∀ t n i res,Lc t n i=some res→X14 t n i res):=by
 refine La.mutual_partial_correctness _ _ ?_ ?_
 ·intro g1 ih1 t res hh
  exact N0.intro hC Tryz.func212 rfl rfl rfl (s' rfl rfl (K0.n hC rfl (e' rfl (t' rfl (S' (t' rfl (bk' (fw' (ih1 _ _ _ _ hh) rfl rfl rfl))))))))
 ·intro g0 g1 ih0 ih1 t n i res hh
  refine Y0.unroll (S' (p' 3 rfl (qe' rfl trivial (F0.lenA _) (e' rfl (ci' rfl hh (fun hh=>?_) (fun hh=>?_))))))
  ·obtain ⟨x1,hx1,hh⟩:=bs' hh
   obtain ⟨x2,hx2,hh⟩:=bs' hh
   exact sk' (S' (bk' (P' 4 rfl (i' rfl (S0 hx1) (F0.idx hx1) rfl (q' rfl (c' (ih0 _ _ hx2) rfl rfl (e' rfl (T' rfl (lw' (ih1 _ _ _ _ hh) rfl rfl rfl)))))))))
  cases hh
  exact ex' (t' rfl (re' (rt' rfl rfl rfl)))
theorem W18 {t res}(hh:La t=some res):Iw t res:=(C17).1 _ _ hh
mutual
def Ma (t:F0):Option Int:=
 F9 t 0 0
 partial_fixpoint
def F9 (t:F0)(d:Int)(i:Int):Option Int:=
 if (decide (i < ((t.Of).length:Int)))=true then
  idx t.Of i>>=fun x1=>
  Ma x1>>=fun x2=>
  if (decide (x2 > d))=true then
   F9 t x2 (IntKind.i64.wrap (i+1))
  else
   F9 t d (IntKind.i64.wrap (i+1))
 else
  some (IntKind.i64.wrap (d+1))
 partial_fixpoint
end
abbrev Jw (t:F0)(res:Int):Prop:=N0 C 213 [.agg (F0.cells t)] [] (Ret [] (.d (.int .i64 res)))
abbrev Y14 (t:F0)(d:Int)(i:Int)(res:Int):Prop:=LM C 25 0 Tryz.f213 [1,1,0,1,4] [(1,.ref 0 0),(3,.d (.int .i64 d)),(4,.d (.int .i64 i))] [.row (F0.cells t) 48] (Ret [] (.d (.int .i64 res)))
theorem D17:(∀ t res,Ma t=some res→Jw t res)∧(∀ t d i res,F9 t d i=some res→Y14 t d i res):=by
 refine Ma.mutual_partial_correctness _ _ ?_ ?_
 ·intro g1 ih1 t res hh
  exact N0.intro hC Tryz.func213 rfl rfl rfl (s' rfl rfl (K0.n hC rfl (e' rfl (t' rfl (S' (t' rfl (bk' (fw' (ih1 _ _ _ _ hh) rfl rfl rfl))))))))
 ·intro g0 g1 ih0 ih1 t d i res hh
  refine Y0.unroll (S' (p' 3 rfl (qe' rfl trivial (F0.lenA _) (e' rfl (ci' rfl hh (fun hh=>?_) (fun hh=>?_))))))
  ·obtain ⟨x1,hx1,hh⟩:=bs' hh
   obtain ⟨x2,hx2,hh⟩:=bs' hh
   refine sk' (S' (bk' (p' 3 rfl (i' rfl (S0 hx1) (F0.idx hx1) rfl (q' rfl (c' (ih0 _ _ hx2) rfl rfl (e' rfl (t' rfl (ci' rfl hh (fun hh=>?_) (fun hh=>?_))))))))))
   ·exact T' rfl (T' rfl (lw' (ih1 _ _ _ _ hh) rfl rfl rfl))
   exact sk' (T' rfl (lw' (ih1 _ _ _ _ hh) rfl rfl rfl))
  cases hh
  exact ex' (t' rfl (re' (rt' rfl rfl rfl)))
theorem X18 {t res}(hh:Ma t=some res):Jw t res:=(D17).1 _ _ hh
def E8 (s:Q0)(d:Int):Option Q0:=
 if (decide (d > s.depth))=true then
  some (Q0.mk s.nodes d)
 else
  some s
theorem Vm {s d res}(hh:E8 s d=some res):N0 C 204 [.agg (Q0.cells s),.d (.int .i64 d)] [] (Ret [] (.agg (Q0.cells res))):=by
 unfold E8 at hh
 refine N0.intro hC Tryz.func204 rfl rfl rfl (s' rfl rfl (K0.n hC rfl (K0.n hC rfl (n' (S' (t' rfl (ci' rfl hh (fun hh=>?_) (fun hh=>?_))))))))
 ·cases hh
  exact P' 2 rfl (K0.s hC rfl (n' (p' 1 rfl (K0.s hC rfl (n' (re' (rt' rfl rfl rfl)))))))
 cases hh
 exact sk' (p' 1 rfl (K0.s hC rfl (n' (re' (rt' rfl rfl rfl)))))
def Cn (s:Q0)(t:F0)(used:Bool):Option Q0:=
 (if (!used)=true then Dm t else some default)>>=fun x1=>
 if (bif (!used) then x1 else false)=true then
  some s
 else
  La t>>=fun x2=>
  Ma t>>=fun x3=>
  E8 (Q0.mk (IntKind.i64.wrap (s.nodes+x2)) s.depth) x3>>=fun x4=>
  some x4
theorem Y1b {s t used res}(hh:Cn s t used=some res):N0 C 134 [.agg (Q0.cells s),.agg (F0.cells t),.d (.bool used)] [] (Ret [] (.agg (Q0.cells res))):=by
 unfold Cn at hh
 obtain ⟨x1,hx1,hh⟩:=bs' hh
 refine N0.intro hC Tryz.func134 rfl rfl rfl (s' rfl rfl (K0.n hC rfl (K0.n hC rfl (K0.n hC rfl (n' (S' (sg' 6 rfl (G' 4 rfl (AG.c rfl rfl (fun hg=>⟨hg,trivial⟩) (fun hw=>R1a (L1 hw hx1)) (pa' rfl (an' (n' (ci' rfl hh (fun hh=>?_) (fun hh=>?_))))))))))))))
 ·cases hh
  exact p' 1 rfl (K0.s hC rfl (n' (re' (rt' rfl rfl rfl))))
 obtain ⟨x2,hx2,hh⟩:=bs' hh
 obtain ⟨x3,hx3,hh⟩:=bs' hh
 obtain ⟨x4,hx4,hh⟩:=bs' hh
 cases hh
 refine sk' (S' (AEx.draw hC 6 rfl rfl rfl (O' 3 rfl (Qc' (W18 hx2) rfl rfl (E' rfl (K0.s hC rfl (n' (S' (AEx.draw hC 4 rfl rfl rfl (O' 2 rfl (Qc' (X18 hx3) rfl rfl (Qc' (Vm hx4) rfl rfl (Qn' ?_)))))))))))))
 exact K0.s hC rfl (n' (re' (rt' rfl rfl rfl)))
def Zh (k:Int):Option Bool:=
 some (bif (k == 5) then true else (k == 6))
theorem Do {k res}(hh:Zh k=some res):N0 C 182 [.d (.int .i64 k)] [] (Ret [] (.d (.bool res))):=by
 unfold Zh at hh
 cases hh
 exact N0.intro hC Tryz.func182 rfl rfl rfl (t' rfl (sg' 7 rfl (G' 4 rfl (a1' rfl (po' rfl (a0' rfl (an' (n' (re' (rt' rfl rfl rfl))))))))))
mutual
def W4 (a:A0)(b:A0):Option Bool:=
 if (bif (bif (bif (a.Op != b.Op) then true else (a.NV != b.NV)) then true else (!(a.Name == b.Name))) then true else (((a.Kids).length:Int) != ((b.Kids).length:Int)))=true then
  some false
 else
  Mc a b 0
 partial_fixpoint
def Mc (a:A0)(b:A0)(i:Int):Option Bool:=
 if (decide (i < ((a.Kids).length:Int)))=true then
  idx a.Kids i>>=fun x1=>
  idx b.Kids i>>=fun x2=>
  W4 x1 x2>>=fun x3=>
  if (!x3)=true then
   some false
  else
   Mc a b (IntKind.i64.wrap (i+1))
 else
  some true
 partial_fixpoint
end
abbrev Kw (a:A0)(b:A0)(res:Bool):Prop:=N0 C 22 [.agg (A0.cells a),.agg (A0.cells b)] [] (Ret [] (.d (.bool res)))
abbrev Z14 (a:A0)(b:A0)(i:Int)(res:Bool):Prop:=LM C 53 0 Tryz.f22 [1,1,0,1,4] [(2,.ref 0 0),(3,.ref 1 0),(5,.d (.int .i64 i))] [.row (A0.cells a) 40,.row (A0.cells b) 40] (Ret [] (.d (.bool res)))
theorem E17:(∀ a b res,W4 a b=some res→Kw a b res)∧(∀ a b i res,Mc a b i=some res→Z14 a b i res):=by
 refine W4.mutual_partial_correctness _ _ ?_ ?_
 ·intro g1 ih1 a b res hh
  refine N0.intro hC Tryz.func22 rfl rfl rfl (s' rfl rfl (K0.n hC rfl (K0.n hC rfl (e' rfl (S' (sg' 28 rfl (G' 7 rfl (a1' rfl (a0' rfl (a1' rfl (a2' rfl (po' rfl (G' 2 rfl ?_)))))))))))))
  refine a1' rfl (a0' rfl (a1' rfl (a2' rfl (po' rfl (G' 2 rfl (a1' rfl (AG.qe hC rfl (fun hg=>⟨⟨hg,trivial⟩,trivial⟩) (A0.lenA _) (a0' rfl (a1' rfl (AG.qe hC rfl (fun hg=>⟨⟨hg,trivial⟩,trivial⟩) (A0.lenA _) (a2' rfl (po' rfl (an' ?_)))))))))))))
  refine n' (ci' rfl hh (fun hh=>?_) (fun hh=>?_))
  ·cases hh
   exact t' rfl (re' (rt' rfl rfl rfl))
  exact sk' (S' (t' rfl (bk' (fw' (ih1 _ _ _ _ hh) rfl rfl rfl))))
 ·intro g0 g1 ih0 ih1 a b i res hh
  refine Y0.unroll (S' (p' 3 rfl (qe' rfl trivial (A0.lenA _) (e' rfl (ci' rfl hh (fun hh=>?_) (fun hh=>?_))))))
  ·obtain ⟨x1,hx1,hh⟩:=bs' hh
   obtain ⟨x2,hx2,hh⟩:=bs' hh
   obtain ⟨x3,hx3,hh⟩:=bs' hh
   refine sk' (S' (bk' (S' (AEx.draw hC 12 rfl rfl rfl (O' 3 rfl (AQ.i hC rfl (S0 hx1) (A0.idx hx1) rfl (O' 4 rfl (AQ.i hC rfl (S0 hx2) (A0.idx hx2) rfl (Q' rfl (Qc' (ih0 _ _ _ hx3) rfl rfl (E' rfl (n' (ci' rfl hh (fun hh=>?_) (fun hh=>?_))))))))))))))
   ·cases hh
    exact t' rfl (re' (rt' rfl rfl rfl))
   exact sk' (T' rfl (lw' (ih1 _ _ _ _ hh) rfl rfl rfl))
  cases hh
  exact ex' (t' rfl (re' (rt' rfl rfl rfl)))
theorem Hh {a b res}(hh:W4 a b=some res):Kw a b res:=(E17).1 _ _ _ hh
def Nc (e:A0):Option Bool:=
 W4 e (A0.mk 0 0 [] [])>>=fun x1=>
 some x1
theorem Hl {e res}(hh:Nc e=some res):N0 C 183 [.agg (A0.cells e)] [] (Ret [] (.d (.bool res))):=by
 unfold Nc at hh
 obtain ⟨x1,hx1,hh⟩:=bs' hh
 cases hh
 exact N0.intro hC Tryz.func183 rfl rfl rfl (s' rfl rfl (K0.n hC rfl (e' rfl (p' 2 rfl (c' (Hh hx1) rfl rfl (e' rfl (re' (rt' rfl rfl rfl))))))))
mutual
def Na (e:A0):Option Int:=
 Oc e 1 0
 partial_fixpoint
def Oc (e:A0)(n:Int)(i:Int):Option Int:=
 if (decide (i < ((e.Kids).length:Int)))=true then
  idx e.Kids i>>=fun x1=>
  Na x1>>=fun x2=>
  Oc e (IntKind.i64.wrap (n+x2)) (IntKind.i64.wrap (i+1))
 else
  some n
 partial_fixpoint
end
abbrev Lw (e:A0)(res:Int):Prop:=N0 C 203 [.agg (A0.cells e)] [] (Ret [] (.d (.int .i64 res)))
abbrev A15 (e:A0)(n:Int)(i:Int)(res:Int):Prop:=LM C 21 0 Tryz.f203 [1,1,0,1,4] [(1,.ref 0 0),(3,.d (.int .i64 n)),(4,.d (.int .i64 i))] [.row (A0.cells e) 40] (Ret [] (.d (.int .i64 res)))
theorem F17:(∀ e res,Na e=some res→Lw e res)∧(∀ e n i res,Oc e n i=some res→A15 e n i res):=by
 refine Na.mutual_partial_correctness _ _ ?_ ?_
 ·intro g1 ih1 e res hh
  exact N0.intro hC Tryz.func203 rfl rfl rfl (s' rfl rfl (K0.n hC rfl (e' rfl (t' rfl (S' (t' rfl (bk' (fw' (ih1 _ _ _ _ hh) rfl rfl rfl))))))))
 ·intro g0 g1 ih0 ih1 e n i res hh
  refine Y0.unroll (S' (p' 3 rfl (qe' rfl trivial (A0.lenA _) (e' rfl (ci' rfl hh (fun hh=>?_) (fun hh=>?_))))))
  ·obtain ⟨x1,hx1,hh⟩:=bs' hh
   obtain ⟨x2,hx2,hh⟩:=bs' hh
   exact sk' (S' (bk' (P' 4 rfl (i' rfl (S0 hx1) (A0.idx hx1) rfl (q' rfl (c' (ih0 _ _ hx2) rfl rfl (e' rfl (T' rfl (lw' (ih1 _ _ _ _ hh) rfl rfl rfl)))))))))
  cases hh
  exact ex' (t' rfl (re' (rt' rfl rfl rfl)))
theorem Y18 {e res}(hh:Na e=some res):Lw e res:=(F17).1 _ _ hh
mutual
def Oa (e:A0):Option Int:=
 G9 e 0 0
 partial_fixpoint
def G9 (e:A0)(d:Int)(i:Int):Option Int:=
 if (decide (i < ((e.Kids).length:Int)))=true then
  idx e.Kids i>>=fun x1=>
  Oa x1>>=fun x2=>
  if (decide (x2 > d))=true then
   G9 e x2 (IntKind.i64.wrap (i+1))
  else
   G9 e d (IntKind.i64.wrap (i+1))
 else
  some (IntKind.i64.wrap (d+1))
 partial_fixpoint
end
abbrev Mw (e:A0)(res:Int):Prop:=N0 C 205 [.agg (A0.cells e)] [] (Ret [] (.d (.int .i64 res)))
abbrev B15 (e:A0)(d:Int)(i:Int)(res:Int):Prop:=LM C 25 0 Tryz.f205 [1,1,0,1,4] [(1,.ref 0 0),(3,.d (.int .i64 d)),(4,.d (.int .i64 i))] [.row (A0.cells e) 40] (Ret [] (.d (.int .i64 res)))
theorem G17:(∀ e res,Oa e=some res→Mw e res)∧(∀ e d i res,G9 e d i=some res→B15 e d i res):=by
 refine Oa.mutual_partial_correctness _ _ ?_ ?_
 ·intro g1 ih1 e res hh
  exact N0.intro hC Tryz.func205 rfl rfl rfl (s' rfl rfl (K0.n hC rfl (e' rfl (t' rfl (S' (t' rfl (bk' (fw' (ih1 _ _ _ _ hh) rfl rfl rfl))))))))
 ·intro g0 g1 ih0 ih1 e d i res hh
  refine Y0.unroll (S' (p' 3 rfl (qe' rfl trivial (A0.lenA _) (e' rfl (ci' rfl hh (fun hh=>?_) (fun hh=>?_))))))
  ·obtain ⟨x1,hx1,hh⟩:=bs' hh
   obtain ⟨x2,hx2,hh⟩:=bs' hh
   refine sk' (S' (bk' (p' 3 rfl (i' rfl (S0 hx1) (A0.idx hx1) rfl (q' rfl (c' (ih0 _ _ hx2) rfl rfl (e' rfl (t' rfl (ci' rfl hh (fun hh=>?_) (fun hh=>?_))))))))))
   ·exact T' rfl (T' rfl (lw' (ih1 _ _ _ _ hh) rfl rfl rfl))
   exact sk' (T' rfl (lw' (ih1 _ _ _ _ hh) rfl rfl rfl))
  cases hh
  exact ex' (t' rfl (re' (rt' rfl rfl rfl)))
theorem Z18 {e res}(hh:Oa e=some res):Mw e res:=(G17).1 _ _ hh
end Go.Proofs.YtbmlpamppbcdeaaGreatDoor

set_option maxRecDepth 100000
set_option maxHeartbeats 4000000
set_option synthInstance.maxSize 20000
set_option linter.unusedVariables false
namespace Go.Proofs.YtbmlpamppbcdeaaGreatDoor
open Go.Am
def Tb (s:Q0)(e:A0)(used:Bool):Option Q0:=
 (if (!used)=true then Nc e else some default)>>=fun x1=>
 if (bif (!used) then x1 else false)=true then
  some s
 else
  Na e>>=fun x2=>
  Oa e>>=fun x3=>
  E8 (Q0.mk (IntKind.i64.wrap (s.nodes+x2)) s.depth) x3>>=fun x4=>
  some x4
theorem Wm {s e used res}(hh:Tb s e used=some res):N0 C 123 [.agg (Q0.cells s),.agg (A0.cells e),.d (.bool used)] [] (Ret [] (.agg (Q0.cells res))):=by
 unfold Tb at hh
 obtain ⟨x1,hx1,hh⟩:=bs' hh
 refine N0.intro hC Tryz.func123 rfl rfl rfl (s' rfl rfl (K0.n hC rfl (K0.n hC rfl (K0.n hC rfl (n' (S' (sg' 6 rfl (G' 4 rfl (AG.c rfl rfl (fun hg=>⟨hg,trivial⟩) (fun hw=>Hl (L1 hw hx1)) (pa' rfl (an' (n' (ci' rfl hh (fun hh=>?_) (fun hh=>?_))))))))))))))
 ·cases hh
  exact p' 1 rfl (K0.s hC rfl (n' (re' (rt' rfl rfl rfl))))
 obtain ⟨x2,hx2,hh⟩:=bs' hh
 obtain ⟨x3,hx3,hh⟩:=bs' hh
 obtain ⟨x4,hx4,hh⟩:=bs' hh
 cases hh
 refine sk' (S' (AEx.draw hC 6 rfl rfl rfl (O' 3 rfl (Qc' (Y18 hx2) rfl rfl (E' rfl (K0.s hC rfl (n' (S' (AEx.draw hC 4 rfl rfl rfl (O' 2 rfl (Qc' (Z18 hx3) rfl rfl (Qc' (Vm hx4) rfl rfl (Qn' ?_)))))))))))))
 exact K0.s hC rfl (n' (re' (rt' rfl rfl rfl)))
def Ai (v:Int):Option Bool:=
 some (bif (bif (v == 0) then true else (v == 1)) then true else (v == 2))
theorem Eo {v res}(hh:Ai v=some res):N0 C 184 [.d (.int .i64 v)] [] (Ret [] (.d (.bool res))):=by
 unfold Ai at hh
 cases hh
 exact N0.intro hC Tryz.func184 rfl rfl rfl (t' rfl (sg' 11 rfl (G' 4 rfl (a1' rfl (po' rfl (G' 2 rfl (a1' rfl (po' rfl (a0' rfl (an' (n' (re' (rt' rfl rfl rfl)))))))))))))
def Ci (v:Int):Option Bool:=
 some (bif (bif (bif (v == 0) then true else (v == 3)) then true else (v == 5)) then true else (v == 6))
theorem Fo {v res}(hh:Ci v=some res):N0 C 186 [.d (.int .i64 v)] [] (Ret [] (.d (.bool res))):=by
 unfold Ci at hh
 cases hh
 refine N0.intro hC Tryz.func186 rfl rfl rfl (t' rfl (sg' 15 rfl (G' 4 rfl (a1' rfl (po' rfl (G' 2 rfl (a1' rfl (po' rfl (G' 2 rfl (a1' rfl (po' rfl (a0' rfl (an' ?_)))))))))))))
 exact n' (re' (rt' rfl rfl rfl))
mutual
def U9 (s:Q0)(l:List C0)(d:Int):Option Q0:=
 Te l d s 0
 partial_fixpoint
def Te (l:List C0)(d:Int)(o01:Q0)(i:Int):Option Q0:=
 if (decide (i < ((l).length:Int)))=true then
  idx l i>>=fun x1=>
  E8 (Q0.mk (IntKind.i64.wrap (o01.nodes+1)) o01.depth) d>>=fun x2=>
  Ai x1.Verb>>=fun x3=>
  Tb x2 x1.Place x3>>=fun x4=>
  Ci x1.Verb>>=fun x5=>
  Tb x4 x1.Value x5>>=fun x6=>
  Ki l d x6 x1 i 0
 else
  some o01
 partial_fixpoint
def Ki (l:List C0)(d:Int)(o0:Q0)(x1:C0)(i1:Int)(k:Int):Option Q0:=
 if (decide (k < ((x1.Args).length:Int)))=true then
  idx x1.Args k>>=fun x7=>
  Tb o0 x7 true>>=fun x8=>
  Ki l d x8 x1 i1 (IntKind.i64.wrap (k+1))
 else
  U9 o0 x1.Then (IntKind.i64.wrap (d+1))>>=fun x9=>
  U9 x9 x1.Else (IntKind.i64.wrap (d+1))>>=fun x10=>
  Te l d x10 (IntKind.i64.wrap (i1+1))
 partial_fixpoint
end
abbrev Fz (s:Q0)(l:List C0)(d:Int)(res:Q0):Prop:=N0 C 179 [.agg (Q0.cells s),.d (.sl (C0.rows l)),.d (.int .i64 d)] [] (Ret [] (.agg (Q0.cells res)))
abbrev H17 (l:List C0)(d:Int)(o01:Q0)(i:Int)(res:Q0):Prop:=LM C 68 0 Tryz.f179 [1,0,1,4] [(1,.d (.sl (C0.rows l))),(2,.d (.int .i64 d)),(3,.ref 0 0),(6,.ref 1 0),(7,.d (.int .i64 i))] [.row (Q0.cells o01) 148,.row [.d (.int .i64 0),.d (.int .i64 0)] 148] (Ret [] (.agg (Q0.cells res)))
abbrev I17 (l:List C0)(d:Int)(o0:Q0)(x1:C0)(i1:Int)(k:Int)(res:Q0):Prop:=LM C 68 0 Tryz.f179 [1,0,1,4,5,1,0,4,1,1,1,1,1,0,1,4] [(1,.d (.sl (C0.rows l))),(2,.d (.int .i64 d)),(3,.ref 0 0),(6,.ref 1 0),(7,.d (.int .i64 i1)),(8,.ref 2 0),(9,.d (.int .i64 k))] [.row (Q0.cells o0) 148,.row [.d (.int .i64 0),.d (.int .i64 0)] 148,.row (C0.cells x1) 79] (Ret [] (.agg (Q0.cells res)))
theorem A19:(∀ s l d res,U9 s l d=some res→Fz s l d res)∧(∀ l d o01 i res,Te l d o01 i=some res→H17 l d o01 i res)∧(∀ l d o0 x1 i1 k res,Ki l d o0 x1 i1 k=some res→I17 l d o0 x1 i1 k res):=by
 refine U9.mutual_partial_correctness _ _ _ ?_ ?_ ?_
 ·intro g1 ih1 s l d res hh
  exact N0.intro hC Tryz.func179 rfl rfl rfl (s' rfl rfl (K0.n hC rfl (K0.n hC rfl (n' (S' (t' rfl (bk' (fw' (ih1 _ _ _ _ _ hh) rfl rfl rfl))))))))
 ·intro g2 ih2 l d o01 i res hh
  refine Y0.unroll (S' (p' 2 rfl (qe' rfl trivial (C0.lenA _) (e' rfl (ci' rfl hh (fun hh=>?_) (fun hh=>?_))))))
  ·obtain ⟨x1,hx1,hh⟩:=bs' hh
   obtain ⟨x2,hx2,hh⟩:=bs' hh
   obtain ⟨x3,hx3,hh⟩:=bs' hh
   obtain ⟨x4,hx4,hh⟩:=bs' hh
   obtain ⟨x5,hx5,hh⟩:=bs' hh
   obtain ⟨x6,hx6,hh⟩:=bs' hh
   refine sk' (S' (bk' (p' 2 rfl (i' rfl (S0 hx1) (C0.idx hx1) rfl (q' rfl (K0.nf hC rfl (K0.s hC rfl (n' (p' 4 rfl (K0.s hC rfl (n' (p' 2 rfl (c' (Vm hx2) rfl rfl ?_)))))))))))))
   refine K0.s hC rfl (n' (S' (AEx.draw hC 7 rfl rfl rfl (O' 5 rfl (Qc' (Eo hx3) rfl rfl (Qc' (Wm hx4) rfl rfl (Qn' (K0.s hC rfl (n' (S' (AEx.draw hC 7 rfl rfl rfl (O' 5 rfl (Qc' (Fo hx5) rfl rfl ?_)))))))))))))
   exact Qc' (Wm hx6) rfl rfl (Qn' (K0.s hC rfl (n' (S' (t' rfl (bk' (fw' (ih2 _ _ _ _ _ _ _ hh) rfl rfl rfl)))))))
  cases hh
  exact ex' (p' 1 rfl (K0.s hC rfl (n' (re' (rt' rfl rfl rfl)))))
 ·intro g0 g1 g2 ih0 ih1 ih2 l d o0 x1 i1 k res hh
  refine Y0.unroll (S' (p' 3 rfl (qe' rfl trivial (A0.lenA _) (e' rfl (ci' rfl hh (fun hh=>?_) (fun hh=>?_))))))
  ·obtain ⟨x7,hx7,hh⟩:=bs' hh
   obtain ⟨x8,hx8,hh⟩:=bs' hh
   exact sk' (S' (bk' (AEx.draw hC 7 rfl rfl rfl (O' 4 rfl (AQ.i hC rfl (S0 hx7) (A0.idx hx7) rfl (Q' rfl (Qc' (Wm hx8) rfl rfl (Qn' (K0.s hC rfl (n' (T' rfl (lw' (ih2 _ _ _ _ _ _ _ hh) rfl rfl rfl))))))))))))
  obtain ⟨x9,hx9,hh⟩:=bs' hh
  obtain ⟨x10,hx10,hh⟩:=bs' hh
  exact ex' (p' 5 rfl (c' (ih0 _ _ _ _ hx9) rfl rfl (K0.s hC rfl (n' (P' 5 rfl (c' (ih0 _ _ _ _ hx10) rfl rfl (K0.s hC rfl (n' (T' rfl (lw' (ih1 _ _ _ _ _ hh) rfl rfl rfl))))))))))
theorem Nw {s l d res}(hh:U9 s l d=some res):Fz s l d res:=(A19).1 _ _ _ _ hh
mutual
def Rc (s:Q0)(l:List D0):Option Q0:=
 Ue l s 0
 partial_fixpoint
def Ue (l:List D0)(o0:Q0)(i:Int):Option Q0:=
 if (decide (i < ((l).length:Int)))=true then
  idx l i>>=fun x1=>
  Cm x1.Kind>>=fun x2=>
  Cn (Q0.mk (IntKind.i64.wrap (o0.nodes+1)) o0.depth) x1.TypeV x2>>=fun x3=>
  Zh x1.Kind>>=fun x4=>
  Tb x3 x1.Value x4>>=fun x5=>
  Rc x5 x1.Params>>=fun x6=>
  Rc x6 x1.Vars>>=fun x7=>
  U9 x7 x1.Body 1>>=fun x8=>
  Ue l x8 (IntKind.i64.wrap (i+1))
 else
  some o0
 partial_fixpoint
end
abbrev Gz (s:Q0)(l:List D0)(res:Q0):Prop:=N0 C 180 [.agg (Q0.cells s),.d (.sl (D0.rows l))] [] (Ret [] (.agg (Q0.cells res)))
abbrev J17 (l:List D0)(o0:Q0)(i:Int)(res:Q0):Prop:=LM C 48 0 Tryz.f180 [1,0,1,4] [(1,.d (.sl (D0.rows l))),(2,.ref 0 0),(4,.ref 1 0),(5,.d (.int .i64 i))] [.row (Q0.cells o0) 148,.row [.d (.int .i64 0),.d (.int .i64 0)] 148] (Ret [] (.agg (Q0.cells res)))
theorem B19:(∀ s l res,Rc s l=some res→Gz s l res)∧(∀ l o0 i res,Ue l o0 i=some res→J17 l o0 i res):=by
 refine Rc.mutual_partial_correctness _ _ ?_ ?_
 ·intro g1 ih1 s l res hh
  exact N0.intro hC Tryz.func180 rfl rfl rfl (s' rfl rfl (K0.n hC rfl (K0.n hC rfl (n' (S' (t' rfl (bk' (fw' (ih1 _ _ _ _ hh) rfl rfl rfl))))))))
 ·intro g0 g1 ih0 ih1 l o0 i res hh
  refine Y0.unroll (S' (p' 2 rfl (qe' rfl trivial (D0.lenA _) (e' rfl (ci' rfl hh (fun hh=>?_) (fun hh=>?_))))))
  ·obtain ⟨x1,hx1,hh⟩:=bs' hh
   obtain ⟨x2,hx2,hh⟩:=bs' hh
   obtain ⟨x3,hx3,hh⟩:=bs' hh
   obtain ⟨x4,hx4,hh⟩:=bs' hh
   obtain ⟨x5,hx5,hh⟩:=bs' hh
   obtain ⟨x6,hx6,hh⟩:=bs' hh
   obtain ⟨x7,hx7,hh⟩:=bs' hh
   obtain ⟨x8,hx8,hh⟩:=bs' hh
   refine sk' (S' (bk' (p' 2 rfl (i' rfl (S0 hx1) (D0.idx hx1) rfl (q' rfl (K0.nf hC rfl (K0.s hC rfl (n' (p' 4 rfl (K0.s hC rfl (n' (S' (AEx.draw hC 7 rfl rfl rfl ?_)))))))))))))
   refine O' 5 rfl (Qc' (Gw hx2) rfl rfl (Qc' (Y1b hx3) rfl rfl (Qn' (K0.s hC rfl (n' (S' (AEx.draw hC 7 rfl rfl rfl (O' 5 rfl (Qc' (Do hx4) rfl rfl (Qc' (Wm hx5) rfl rfl (Qn' (K0.s hC rfl (n' ?_)))))))))))))
   exact p' 3 rfl (c' (ih0 _ _ _ hx6) rfl rfl (K0.s hC rfl (n' (p' 3 rfl (c' (ih0 _ _ _ hx7) rfl rfl (K0.s hC rfl (n' (P' 3 rfl (c' (Nw hx8) rfl rfl (K0.s hC rfl (n' (T' rfl (lw' (ih1 _ _ _ _ hh) rfl rfl rfl)))))))))))))
  cases hh
  exact ex' (p' 1 rfl (K0.s hC rfl (n' (re' (rt' rfl rfl rfl)))))
theorem S1a {s l res}(hh:Rc s l=some res):Gz s l res:=(B19).1 _ _ _ hh
def Wp (p:O0):Option Q0:=
 Rc (Q0.mk 0 0) p.Decls>>=fun x1=>
 U9 x1 p.Body 1>>=fun x2=>
 some x2
theorem F1f {p res}(hh:Wp p=some res):N0 C 94 [.agg (O0.cells p)] [] (Ret [] (.agg (Q0.cells res))):=by
 unfold Wp at hh
 obtain ⟨x1,hx1,hh⟩:=bs' hh
 obtain ⟨x2,hx2,hh⟩:=bs' hh
 cases hh
 refine N0.intro hC Tryz.func94 rfl rfl rfl (s' rfl rfl (K0.n hC rfl (K0.n hC rfl (n' (S' (AEx.draw hC 7 rfl rfl rfl (O' 3 rfl (Qc' (S1a hx1) rfl rfl (O' 2 rfl (Qc' (Nw hx2) rfl rfl (Qn' (K0.s hC rfl (n' ?_)))))))))))))
 exact re' (rt' rfl rfl rfl)
mutual
def Sc (t:F0):Option Bool:=
 if (bif (decide (t.Kind < 0)) then true else (decide (t.Kind > 4)))=true then
  some false
 else
  if (bif (bif (bif (bif (t.Kind != 1) then (bif (t.Low != 0) then true else (t.High != 0)) else false) then true else (bif (t.Kind != 2) then (t.Size != 0) else false)) then true else (bif (t.Kind != 4) then (!(t.Name == [])) else false)) then true else (bif (t.Kind != 3) then (((t.Names).length:Int) != 0) else false))=true then
   some false
  else
   if (bif (bif (bif (t.Kind == 2) then (((t.Of).length:Int) != 1) else false) then true else (bif (t.Kind == 3) then (bif (decide (((t.Of).length:Int) < 1)) then true else (((t.Of).length:Int) != ((t.Names).length:Int))) else false)) then true else (bif (bif (t.Kind != 2) then (t.Kind != 3) else false) then (((t.Of).length:Int) != 0) else false))=true then
    some false
   else
    We t 0
 partial_fixpoint
def We (t:F0)(i:Int):Option Bool:=
 if (decide (i < ((t.Of).length:Int)))=true then
  idx t.Of i>>=fun x1=>
  Sc x1>>=fun x2=>
  if (!x2)=true then
   some false
  else
   We t (IntKind.i64.wrap (i+1))
 else
  some true
 partial_fixpoint
end
abbrev Hz (t:F0)(res:Bool):Prop:=N0 C 135 [.agg (F0.cells t)] [] (Ret [] (.d (.bool res)))
abbrev K17 (t:F0)(i:Int)(res:Bool):Prop:=LM C 115 0 Tryz.f135 [1,1,1,1,0,1,4] [(1,.ref 0 0),(3,.d (.int .i64 i))] [.row (F0.cells t) 48] (Ret [] (.d (.bool res)))
theorem C19:(∀ t res,Sc t=some res→Hz t res)∧(∀ t i res,We t i=some res→K17 t i res):=by
 refine Sc.mutual_partial_correctness _ _ ?_ ?_
 ·intro g1 ih1 t res hh
  refine N0.intro hC Tryz.func135 rfl rfl rfl (s' rfl rfl (K0.n hC rfl (e' rfl (S' (sg' 8 rfl (G' 5 rfl (a1' rfl (a1' rfl (po' rfl (an' (n' (ci' rfl hh (fun hh=>?_) (fun hh=>?_)))))))))))))
  ·cases hh
   exact t' rfl (re' (rt' rfl rfl rfl))
  refine sk' (S' (sg' 44 rfl (G' 5 rfl (a1' rfl (a1' rfl (a1' rfl (a0' rfl (a1' rfl (a1' rfl (pO' rfl (pa' rfl (G' 2 rfl (a1' rfl ?_)))))))))))))
  refine a1' rfl (a1' rfl (a0' rfl (a1' rfl (a1' rfl (pA' rfl (po' rfl (G' 2 rfl (a1' rfl (a1' rfl (a1' rfl (a0' rfl (a1' rfl (a1' rfl ?_)))))))))))))
  refine pA' rfl (po' rfl (G' 2 rfl (a1' rfl (a1' rfl (a1' rfl (a0' rfl (a1' rfl (AG.qe hC rfl (fun hg=>⟨⟨hg,trivial⟩,trivial⟩) (estr.lenA _) (a1' rfl (pA' rfl (po' rfl (an' (n' (ci' rfl hh (fun hh=>?_) (fun hh=>?_)))))))))))))))
  ·cases hh
   exact t' rfl (re' (rt' rfl rfl rfl))
  refine sk' (S' (sg' 45 rfl (G' 5 rfl (a1' rfl (AG.qe hC rfl (fun hg=>⟨⟨hg,trivial⟩,trivial⟩) (F0.lenA _) (a1' rfl (pa' rfl (G' 2 rfl (a1' rfl (a1' rfl (a1' rfl (a0' rfl (a1' rfl ?_)))))))))))))
  refine AG.qe hC rfl (fun hg=>⟨⟨hg,trivial⟩,trivial⟩) (F0.lenA _) (a1' rfl (a1' rfl (a0' rfl (a1' rfl (AG.qe hC rfl (fun hg=>⟨⟨hg,trivial⟩,trivial⟩) (F0.lenA _) (a0' rfl (a1' rfl (AG.qe hC rfl (fun hg=>⟨⟨hg,trivial⟩,trivial⟩) (estr.lenA _) (a2' rfl (pO' rfl (pA' rfl (po' rfl (G' 2 rfl ?_)))))))))))))
  refine a1' rfl (a1' rfl (a1' rfl (a0' rfl (a1' rfl (a1' rfl (pA' rfl (a1' rfl (a0' rfl (a1' rfl (AG.qe hC rfl (fun hg=>⟨⟨hg,trivial⟩,trivial⟩) (F0.lenA _) (a1' rfl (pA' rfl (po' rfl ?_)))))))))))))
  refine an' (n' (ci' rfl hh (fun hh=>?_) (fun hh=>?_)))
  ·cases hh
   exact t' rfl (re' (rt' rfl rfl rfl))
  exact sk' (S' (t' rfl (bk' (fw' (ih1 _ _ _ hh) rfl rfl rfl))))
 ·intro g0 g1 ih0 ih1 t i res hh
  refine Y0.unroll (S' (p' 3 rfl (qe' rfl trivial (F0.lenA _) (e' rfl (ci' rfl hh (fun hh=>?_) (fun hh=>?_))))))
  ·obtain ⟨x1,hx1,hh⟩:=bs' hh
   obtain ⟨x2,hx2,hh⟩:=bs' hh
   refine sk' (S' (bk' (p' 3 rfl (i' rfl (S0 hx1) (F0.idx hx1) rfl (q' rfl (c' (ih0 _ _ hx2) rfl rfl (e' rfl (ci' rfl hh (fun hh=>?_) (fun hh=>?_)))))))))
   ·cases hh
    exact t' rfl (re' (rt' rfl rfl rfl))
   exact sk' (T' rfl (lw' (ih1 _ _ _ hh) rfl rfl rfl))
  cases hh
  exact ex' (t' rfl (re' (rt' rfl rfl rfl)))
theorem T1a {t res}(hh:Sc t=some res):Hz t res:=(C19).1 _ _ hh
def Tr (o:Int):Option Int:=
 if (bif (bif (bif (o == 0) then true else (o == 1)) then true else (o == 2)) then true else (o == 3))=true then
  some 0
 else
  if (bif (bif (o == 4) then true else (o == 6)) then true else (o == 7))=true then
   some 1
  else
   if (bif (o == 5) then true else (bif (decide (o≥8)) then (decide (o≤22)) else false))=true then
    some 2
   else
    if (o == 23)=true then
     some 3
    else
     some (-1)
theorem E1h {o res}(hh:Tr o=some res):N0 C 206 [.d (.int .i64 o)] [] (Ret [] (.d (.int .i64 res))):=by
 unfold Tr at hh
 refine N0.intro hC Tryz.func206 rfl rfl rfl (t' rfl (S' (sg' 14 rfl (G' 4 rfl (a1' rfl (po' rfl (G' 2 rfl (a1' rfl (po' rfl (G' 2 rfl (a1' rfl (po' rfl (an' ?_)))))))))))))
 refine n' (ci' rfl hh (fun hh=>?_) (fun hh=>?_))
 ·cases hh
  exact t' rfl (re' (rt' rfl rfl rfl))
 refine sk' (S' (sg' 10 rfl (G' 4 rfl (a1' rfl (po' rfl (G' 2 rfl (a1' rfl (po' rfl (an' (n' (ci' rfl hh (fun hh=>?_) (fun hh=>?_))))))))))))
 ·cases hh
  exact t' rfl (re' (rt' rfl rfl rfl))
 refine sk' (S' (sg' 10 rfl (G' 4 rfl (a1' rfl (a1' rfl (a0' rfl (a1' rfl (pA' rfl (po' rfl (an' (n' (ci' rfl hh (fun hh=>?_) (fun hh=>?_)))))))))))))
 ·cases hh
  exact t' rfl (re' (rt' rfl rfl rfl))
 refine sk' (S' (t' rfl (ci' rfl hh (fun hh=>?_) (fun hh=>?_))))
 ·cases hh
  exact t' rfl (re' (rt' rfl rfl rfl))
 cases hh
 exact sk' (t' rfl (re' (rt' rfl rfl rfl)))
def Df (e:A0):Option Bool:=
 if (e.Op == 3)=true then
  some true
 else
  (if (bif (bif (e.Op == 4) then true else (e.Op == 5)) then (decide (((e.Kids).length:Int) > 0)) else false)=true then idx e.Kids 0 else some default)>>=fun x1=>
  (if (bif (bif (e.Op == 4) then true else (e.Op == 5)) then (decide (((e.Kids).length:Int) > 0)) else false)=true then Df x1 else some default)>>=fun x2=>
  some (bif (bif (bif (e.Op == 4) then true else (e.Op == 5)) then (decide (((e.Kids).length:Int) > 0)) else false) then x2 else false)
 partial_fixpoint
abbrev A11 (e:A0)(res:Bool):Prop:=N0 C 185 [.agg (A0.cells e)] [] (Ret [] (.d (.bool res)))
theorem U1a:(∀ e res,Df e=some res→A11 e res):=by
 refine Df.partial_correctness _ ?_
 ·intro g0 ih0 e res hh
  refine N0.intro hC Tryz.func185 rfl rfl rfl (s' rfl rfl (K0.n hC rfl (e' rfl (S' (t' rfl (ci' rfl hh (fun hh=>?_) (fun hh=>?_)))))))
  ·cases hh
   exact t' rfl (re' (rt' rfl rfl rfl))
  obtain ⟨x1,hx1,hh⟩:=bs' hh
  obtain ⟨x2,hx2,hh⟩:=bs' hh
  cases hh
  refine sk' (sg' 22 rfl (G' 5 rfl (a1' rfl (a1' rfl (po' rfl (G' 2 rfl (a1' rfl (AG.qe hC rfl (fun hg=>⟨⟨hg,trivial⟩,trivial⟩) (A0.lenA _) (a1' rfl (pa' rfl (G' 2 rfl (a1' rfl (AG.i hC rfl rfl (fun hg=>⟨hg,trivial⟩) (fun hw=>⟨S0 (L1 hw hx1),A0.idx (L1 hw hx1),rfl⟩) ?_)))))))))))))
  exact a1' rfl (AG.c rfl rfl (fun hg=>⟨hg,trivial⟩) (fun hw=>ih0 _ _ (L1 hw hx2)) (pa' rfl (a0' rfl (an' (n' (re' (rt' rfl rfl rfl)))))))
theorem Iz {e res}(hh:Df e=some res):A11 e res:=(U1a) _ _ hh
mutual
def L5 (e:A0):Option Bool:=
 Tr e.Op>>=fun x1=>
 if (bif (bif (x1 != ((e.Kids).length:Int)) then true else (bif (e.Op != 0) then (e.NV != 0) else false)) then true else (bif (bif (e.Op != 3) then (e.Op != 4) else false) then (!(e.Name == [])) else false))=true then
  some false
 else
  (if (bif (e.Op == 4) then true else (e.Op == 5))=true then Df e else some default)>>=fun x2=>
  if (bif (bif (e.Op == 4) then true else (e.Op == 5)) then (!x2) else false)=true then
   some false
  else
   Xe e 0
 partial_fixpoint
def Xe (e:A0)(i:Int):Option Bool:=
 if (decide (i < ((e.Kids).length:Int)))=true then
  idx e.Kids i>>=fun x3=>
  L5 x3>>=fun x4=>
  if (!x4)=true then
   some false
  else
   Xe e (IntKind.i64.wrap (i+1))
 else
  some true
 partial_fixpoint
end
abbrev Jz (e:A0)(res:Bool):Prop:=N0 C 124 [.agg (A0.cells e)] [] (Ret [] (.d (.bool res)))
abbrev L17 (e:A0)(i:Int)(res:Bool):Prop:=LM C 63 0 Tryz.f124 [1,1,1,0,1,4] [(1,.ref 0 0),(3,.d (.int .i64 i))] [.row (A0.cells e) 40] (Ret [] (.d (.bool res)))
theorem D19:(∀ e res,L5 e=some res→Jz e res)∧(∀ e i res,Xe e i=some res→L17 e i res):=by
 refine L5.mutual_partial_correctness _ _ ?_ ?_
 ·intro g1 ih1 e res hh
  obtain ⟨x1,hx1,hh⟩:=bs' hh
  refine N0.intro hC Tryz.func124 rfl rfl rfl (s' rfl rfl (K0.n hC rfl (e' rfl (S' (S' (AEx.drawG hC 32 rfl rfl rfl (G' 2 rfl (AG.c rfl rfl (fun _=>trivial) (fun _=>E1h hx1) (G' 2 rfl (AG.qe hC rfl (fun hg=>⟨trivial,trivial⟩) (A0.lenA _) (G' 3 rfl (a1' rfl (a1' rfl ?_)))))))))))))
  refine a1' rfl (a0' rfl (a1' rfl (a1' rfl (pA' rfl (po' rfl (G' 2 rfl (a1' rfl (a1' rfl (a1' rfl (a0' rfl (a1' rfl (a1' rfl (pA' rfl ?_)))))))))))))
  refine a1' rfl (a0' rfl (a1' rfl (a1' rfl (pA' rfl (po' rfl (an' (n' (ci' rfl hh (fun hh=>?_) (fun hh=>?_)))))))))
  ·cases hh
   exact t' rfl (re' (rt' rfl rfl rfl))
  obtain ⟨x2,hx2,hh⟩:=bs' hh
  refine sk' (S' (sg' 13 rfl (G' 5 rfl (a1' rfl (a1' rfl (po' rfl (G' 2 rfl (AG.c rfl rfl (fun hg=>⟨hg,trivial⟩) (fun hw=>Iz (L1 hw hx2)) (a1' rfl (pa' rfl (an' (n' (ci' rfl hh (fun hh=>?_) (fun hh=>?_))))))))))))))
  ·cases hh
   exact t' rfl (re' (rt' rfl rfl rfl))
  exact sk' (S' (t' rfl (bk' (fw' (ih1 _ _ _ hh) rfl rfl rfl))))
 ·intro g0 g1 ih0 ih1 e i res hh
  refine Y0.unroll (S' (p' 3 rfl (qe' rfl trivial (A0.lenA _) (e' rfl (ci' rfl hh (fun hh=>?_) (fun hh=>?_))))))
  ·obtain ⟨x3,hx3,hh⟩:=bs' hh
   obtain ⟨x4,hx4,hh⟩:=bs' hh
   refine sk' (S' (bk' (p' 3 rfl (i' rfl (S0 hx3) (A0.idx hx3) rfl (q' rfl (c' (ih0 _ _ hx4) rfl rfl (e' rfl (ci' rfl hh (fun hh=>?_) (fun hh=>?_)))))))))
   ·cases hh
    exact t' rfl (re' (rt' rfl rfl rfl))
   exact sk' (T' rfl (lw' (ih1 _ _ _ hh) rfl rfl rfl))
  cases hh
  exact ex' (t' rfl (re' (rt' rfl rfl rfl)))
theorem Il {e res}(hh:L5 e=some res):Jz e res:=(D19).1 _ _ hh
def Hg (v:Int):Option Bool:=
 some (bif (bif (v == 1) then true else (v == 2)) then true else (v == 7))
theorem Jl {v res}(hh:Hg v=some res):N0 C 103 [.d (.int .i64 v)] [] (Ret [] (.d (.bool res))):=by
 unfold Hg at hh
 cases hh
 exact N0.intro hC Tryz.func103 rfl rfl rfl (t' rfl (sg' 11 rfl (G' 4 rfl (a1' rfl (po' rfl (G' 2 rfl (a1' rfl (po' rfl (a0' rfl (an' (n' (re' (rt' rfl rfl rfl)))))))))))))
def Cu (v:Int):Option Bool:=
 some (bif (v == 4) then true else (v == 6))
theorem G1f {v res}(hh:Cu v=some res):N0 C 187 [.d (.int .i64 v)] [] (Ret [] (.d (.bool res))):=by
 unfold Cu at hh
 cases hh
 exact N0.intro hC Tryz.func187 rfl rfl rfl (t' rfl (sg' 7 rfl (G' 4 rfl (a1' rfl (po' rfl (a0' rfl (an' (n' (re' (rt' rfl rfl rfl))))))))))
def So (v:Int):Option Bool:=
 some (bif (bif (v == 5) then true else (v == 6)) then true else (v == 7))
theorem V1a {v res}(hh:So v=some res):N0 C 188 [.d (.int .i64 v)] [] (Ret [] (.d (.bool res))):=by
 unfold So at hh
 cases hh
 exact N0.intro hC Tryz.func188 rfl rfl rfl (t' rfl (sg' 11 rfl (G' 4 rfl (a1' rfl (po' rfl (G' 2 rfl (a1' rfl (po' rfl (a0' rfl (an' (n' (re' (rt' rfl rfl rfl)))))))))))))
mutual
def Q8 (l:List C0):Option Bool:=
 Tc l 0
 partial_fixpoint
def Tc (l:List C0)(i:Int):Option Bool:=
 if (decide (i < ((l).length:Int)))=true then
  idx l i>>=fun x1=>
  if (bif (decide (x1.Verb < 0)) then true else (decide (x1.Verb > 8)))=true then
   some false
  else
   Ai x1.Verb>>=fun x2=>
   (if x2=true then Df x1.Place else some default)>>=fun x3=>
   (if (x2&&(!(!x3)))=true then L5 x1.Place else some default)>>=fun x4=>
   (if (!(bif x2 then (bif (!x3) then true else (!x4)) else false))=true then Ai x1.Verb else some default)>>=fun x5=>
   (if ((!(bif x2 then (bif (!x3) then true else (!x4)) else false))&&(!x5))=true then Nc x1.Place else some default)>>=fun x6=>
   if (bif (bif x2 then (bif (!x3) then true else (!x4)) else false) then true else (bif (!x5) then (!x6) else false))=true then
    some false
   else
    Ci x1.Verb>>=fun x7=>
    (if x7=true then L5 x1.Value else some default)>>=fun x8=>
    (if (!(bif x7 then (!x8) else false))=true then Ci x1.Verb else some default)>>=fun x9=>
    (if ((!(bif x7 then (!x8) else false))&&(!x9))=true then Nc x1.Value else some default)>>=fun x10=>
    if (bif (bif x7 then (!x8) else false) then true else (bif (!x9) then (!x10) else false))=true then
     some false
    else
     Hg x1.Verb>>=fun x11=>
     (if (!(bif (bif (!x11) then (!(x1.Name == [])) else false) then true else (bif (x1.Verb != 1) then (((x1.Args).length:Int) != 0) else false)))=true then Cu x1.Verb else some default)>>=fun x12=>
     if (bif (bif (bif (bif (bif (!x11) then (!(x1.Name == [])) else false) then true else (bif (x1.Verb != 1) then (((x1.Args).length:Int) != 0) else false)) then true else (bif (!x12) then (x1.NV != 0) else false)) then true else (bif (x1.Verb != 7) then (bif (x1.Low != 0) then true else (x1.High != 0)) else false)) then true else (bif (x1.Verb != 8) then (((x1.Numbers).length:Int) != 0) else false))=true then
      some false
     else
      So x1.Verb>>=fun x13=>
      if (bif (bif (!x13) then (((x1.Then).length:Int) != 0) else false) then true else (bif (x1.Verb != 5) then (((x1.Else).length:Int) != 0) else false))=true then
       some false
      else
       Ih l x1 i 0
 else
  some true
 partial_fixpoint
def Ih (l:List C0)(x1:C0)(i1:Int)(k:Int):Option Bool:=
 if (decide (k < ((x1.Args).length:Int)))=true then
  idx x1.Args k>>=fun x14=>
  L5 x14>>=fun x15=>
  if (!x15)=true then
   some false
  else
   Ih l x1 i1 (IntKind.i64.wrap (k+1))
 else
  Q8 x1.Then>>=fun x16=>
  (if (!(!x16))=true then Q8 x1.Else else some default)>>=fun x17=>
  if (bif (!x16) then true else (!x17))=true then
   some false
  else
   Tc l (IntKind.i64.wrap (i1+1))
 partial_fixpoint
end
abbrev Ow (l:List C0)(res:Bool):Prop:=N0 C 96 [.d (.sl (C0.rows l))] [] (Ret [] (.d (.bool res)))
abbrev C15 (l:List C0)(i:Int)(res:Bool):Prop:=LM C 174 0 Tryz.f96 [1,0,1,4] [(0,.d (.sl (C0.rows l))),(3,.d (.int .i64 i))] [] (Ret [] (.d (.bool res)))
abbrev D15 (l:List C0)(x1:C0)(i1:Int)(k:Int)(res:Bool):Prop:=LM C 174 0 Tryz.f96 [1,0,1,4,5,1,0,4,1,1,1,1,1,1,0,1,4] [(0,.d (.sl (C0.rows l))),(3,.d (.int .i64 i1)),(4,.ref 0 0),(5,.d (.int .i64 k))] [.row (C0.cells x1) 79] (Ret [] (.d (.bool res)))
theorem M17:(∀ l res,Q8 l=some res→Ow l res)∧(∀ l i res,Tc l i=some res→C15 l i res)∧(∀ l x1 i1 k res,Ih l x1 i1 k=some res→D15 l x1 i1 k res):=by
 refine Q8.mutual_partial_correctness _ _ _ ?_ ?_ ?_
 ·intro g1 ih1 l res hh
  exact N0.intro hC Tryz.func96 rfl rfl rfl (t' rfl (S' (t' rfl (bk' (fw' (ih1 _ _ _ hh) rfl rfl rfl)))))
 ·intro g2 ih2 l i res hh
  refine Y0.unroll (S' (p' 2 rfl (qe' rfl trivial (C0.lenA _) (e' rfl (ci' rfl hh (fun hh=>?_) (fun hh=>?_))))))
  ·obtain ⟨x1,hx1,hh⟩:=bs' hh
   refine sk' (S' (bk' (p' 2 rfl (i' rfl (S0 hx1) (C0.idx hx1) rfl (q' rfl (K0.nf hC rfl (K0.s hC rfl (n' (S' (sg' 8 rfl (G' 5 rfl (a1' rfl (a1' rfl ?_)))))))))))))
   refine po' rfl (an' (n' (ci' rfl hh (fun hh=>?_) (fun hh=>?_))))
   ·cases hh
    exact t' rfl (re' (rt' rfl rfl rfl))
   obtain ⟨x2,hx2,hh⟩:=bs' hh
   obtain ⟨x3,hx3,hh⟩:=bs' hh
   obtain ⟨x4,hx4,hh⟩:=bs' hh
   obtain ⟨x5,hx5,hh⟩:=bs' hh
   obtain ⟨x6,hx6,hh⟩:=bs' hh
   refine sk' (S' (sg' 27 rfl (G' 2 rfl (AG.c rfl rfl (fun _=>trivial) (fun _=>Eo hx2) (G' 2 rfl (a1' rfl (AG.c rfl rfl (fun hg=>⟨hg,trivial⟩) (fun hw=>Iz (L1 hw hx3)) (a1' rfl (a1' rfl (a0' rfl (a1' rfl (AG.c rfl rfl (fun hg=>⟨hg,trivial⟩) (fun hw=>Il (L1 hw hx4)) (a1' rfl ?_)))))))))))))
   refine pO' rfl (pa' rfl (G' 2 rfl (a1' rfl (AG.c rfl rfl (fun hg=>⟨hg,trivial⟩) (fun hw=>Eo (L1 hw hx5)) (a1' rfl (a1' rfl (a0' rfl (a1' rfl (AG.c rfl rfl (fun hg=>⟨hg,trivial⟩) (fun hw=>Hl (L1 hw hx6)) (a1' rfl (pA' rfl (po' rfl (an' ?_)))))))))))))
   refine n' (ci' rfl hh (fun hh=>?_) (fun hh=>?_))
   ·cases hh
    exact t' rfl (re' (rt' rfl rfl rfl))
   obtain ⟨x7,hx7,hh⟩:=bs' hh
   obtain ⟨x8,hx8,hh⟩:=bs' hh
   obtain ⟨x9,hx9,hh⟩:=bs' hh
   obtain ⟨x10,hx10,hh⟩:=bs' hh
   refine sk' (S' (sg' 21 rfl (G' 2 rfl (AG.c rfl rfl (fun _=>trivial) (fun _=>Fo hx7) (G' 2 rfl (a1' rfl (AG.c rfl rfl (fun hg=>⟨hg,trivial⟩) (fun hw=>Il (L1 hw hx8)) (a1' rfl (pa' rfl (G' 2 rfl (a1' rfl (AG.c rfl rfl (fun hg=>⟨hg,trivial⟩) (fun hw=>Fo (L1 hw hx9)) (a1' rfl ?_)))))))))))))
   refine a1' rfl (a0' rfl (a1' rfl (AG.c rfl rfl (fun hg=>⟨hg,trivial⟩) (fun hw=>Hl (L1 hw hx10)) (a1' rfl (pA' rfl (po' rfl (an' (n' (ci' rfl hh (fun hh=>?_) (fun hh=>?_))))))))))
   ·cases hh
    exact t' rfl (re' (rt' rfl rfl rfl))
   obtain ⟨x11,hx11,hh⟩:=bs' hh
   obtain ⟨x12,hx12,hh⟩:=bs' hh
   refine sk' (S' (sg' 57 rfl (G' 2 rfl (AG.c rfl rfl (fun _=>trivial) (fun _=>Jl hx11) (G' 3 rfl (a1' rfl (a1' rfl (pa' rfl (G' 2 rfl (a1' rfl (a1' rfl (a1' rfl (a0' rfl ?_)))))))))))))
   refine a1' rfl (AG.qe hC rfl (fun hg=>⟨⟨hg,trivial⟩,trivial⟩) (A0.lenA _) (a1' rfl (pA' rfl (po' rfl (G' 2 rfl (a1' rfl (AG.c rfl rfl (fun hg=>⟨hg,trivial⟩) (fun hw=>G1f (L1 hw hx12)) (a1' rfl (a1' rfl (a0' rfl (a1' rfl (a1' rfl (pA' rfl ?_)))))))))))))
   refine po' rfl (G' 2 rfl (a1' rfl (a1' rfl (a1' rfl (a0' rfl (a1' rfl (a1' rfl (a1' rfl (a0' rfl (a1' rfl (a1' rfl (pO' rfl (pA' rfl ?_)))))))))))))
   refine po' rfl (G' 2 rfl (a1' rfl (a1' rfl (a1' rfl (a0' rfl (a1' rfl (AG.qe hC rfl (fun hg=>⟨⟨hg,trivial⟩,trivial⟩) (ei64.lenA _) (a1' rfl (pA' rfl (po' rfl (an' (n' (ci' rfl hh (fun hh=>?_) (fun hh=>?_))))))))))))))
   ·cases hh
    exact t' rfl (re' (rt' rfl rfl rfl))
   obtain ⟨x13,hx13,hh⟩:=bs' hh
   refine sk' (S' (sg' 21 rfl (G' 2 rfl (AG.c rfl rfl (fun _=>trivial) (fun _=>V1a hx13) (G' 3 rfl (a1' rfl (AG.qe hC rfl (fun hg=>⟨⟨hg,trivial⟩,trivial⟩) (C0.lenA _) (a1' rfl (pa' rfl (G' 2 rfl (a1' rfl (a1' rfl (a1' rfl ?_)))))))))))))
   refine a0' rfl (a1' rfl (AG.qe hC rfl (fun hg=>⟨⟨hg,trivial⟩,trivial⟩) (C0.lenA _) (a1' rfl (pA' rfl (po' rfl (an' (n' (ci' rfl hh (fun hh=>?_) (fun hh=>?_)))))))))
   ·cases hh
    exact t' rfl (re' (rt' rfl rfl rfl))
   exact sk' (S' (t' rfl (bk' (fw' (ih2 _ _ _ _ _ hh) rfl rfl rfl))))
  cases hh
  exact ex' (t' rfl (re' (rt' rfl rfl rfl)))
 ·intro g0 g1 g2 ih0 ih1 ih2 l x1 i1 k res hh
  refine Y0.unroll (S' (p' 3 rfl (qe' rfl trivial (A0.lenA _) (e' rfl (ci' rfl hh (fun hh=>?_) (fun hh=>?_))))))
  ·obtain ⟨x14,hx14,hh⟩:=bs' hh
   obtain ⟨x15,hx15,hh⟩:=bs' hh
   refine sk' (S' (bk' (p' 3 rfl (i' rfl (S0 hx14) (A0.idx hx14) rfl (q' rfl (c' (Il hx15) rfl rfl (e' rfl (ci' rfl hh (fun hh=>?_) (fun hh=>?_)))))))))
   ·cases hh
    exact t' rfl (re' (rt' rfl rfl rfl))
   exact sk' (T' rfl (lw' (ih2 _ _ _ _ _ hh) rfl rfl rfl))
  obtain ⟨x16,hx16,hh⟩:=bs' hh
  obtain ⟨x17,hx17,hh⟩:=bs' hh
  refine ex' (sg' 10 rfl (G' 2 rfl (AG.c rfl rfl (fun _=>trivial) (fun _=>ih0 _ _ hx16) (G' 3 rfl (a1' rfl (AG.c rfl rfl (fun hg=>⟨hg,trivial⟩) (fun hw=>ih0 _ _ (L1 hw hx17)) (a1' rfl (po' rfl (an' (n' (ci' rfl hh (fun hh=>?_) (fun hh=>?_))))))))))))
  ·cases hh
   exact t' rfl (re' (rt' rfl rfl rfl))
  exact sk' (T' rfl (lw' (ih1 _ _ _ hh) rfl rfl rfl))
theorem Vu {l res}(hh:Q8 l=some res):Ow l res:=(M17).1 _ _ hh
mutual
def Pa (l:List D0):Option Bool:=
 Uc l 0
 partial_fixpoint
def Uc (l:List D0)(i:Int):Option Bool:=
 if (decide (i < ((l).length:Int)))=true then
  idx l i>>=fun x1=>
  Cm x1.Kind>>=fun x2=>
  (if (!(!x2))=true then Sc x1.TypeV else some default)>>=fun x3=>
  if (bif (!x2) then true else (!x3))=true then
   some false
  else
   Zh x1.Kind>>=fun x4=>
   (if x4=true then L5 x1.Value else some default)>>=fun x5=>
   (if (!(bif x4 then (!x5) else false))=true then Zh x1.Kind else some default)>>=fun x6=>
   (if ((!(bif x4 then (!x5) else false))&&(!x6))=true then Nc x1.Value else some default)>>=fun x7=>
   if (bif (bif (bif x4 then (!x5) else false) then true else (bif (!x6) then (!x7) else false)) then true else (bif (x1.Kind != 4) then (x1.Init != 0) else false))=true then
    some false
   else
    if (bif (x1.Kind != 6) then (bif (bif (((x1.Params).length:Int) != 0) then true else (((x1.Vars).length:Int) != 0)) then true else (((x1.Body).length:Int) != 0)) else false)=true then
     some false
    else
     Y6 l x1 i 0
 else
  some true
 partial_fixpoint
def Y6 (l:List D0)(x1:D0)(i1:Int)(k:Int):Option Bool:=
 if (decide (k < ((x1.Params).length:Int)))=true then
  idx x1.Params k>>=fun x8=>
  (if (!(x8.Kind != 4))=true then idx x1.Params k else some default)>>=fun x9=>
  if (bif (x8.Kind != 4) then true else (x9.Init != 0))=true then
   some false
  else
   Y6 l x1 i1 (IntKind.i64.wrap (k+1))
 else
  Z6 l x1 i1 0
 partial_fixpoint
def Z6 (l:List D0)(x1:D0)(i2:Int)(k1:Int):Option Bool:=
 if (decide (k1 < ((x1.Vars).length:Int)))=true then
  idx x1.Vars k1>>=fun x10=>
  if (x10.Kind != 4)=true then
   some false
  else
   Z6 l x1 i2 (IntKind.i64.wrap (k1+1))
 else
  Pa x1.Params>>=fun x11=>
  (if (!(!x11))=true then Pa x1.Vars else some default)>>=fun x12=>
  (if (!(bif (!x11) then true else (!x12)))=true then Q8 x1.Body else some default)>>=fun x13=>
  if (bif (bif (!x11) then true else (!x12)) then true else (!x13))=true then
   some false
  else
   Uc l (IntKind.i64.wrap (i2+1))
 partial_fixpoint
end
abbrev Pw (l:List D0)(res:Bool):Prop:=N0 C 95 [.d (.sl (D0.rows l))] [] (Ret [] (.d (.bool res)))
abbrev E15 (l:List D0)(i:Int)(res:Bool):Prop:=LM C 132 0 Tryz.f95 [1,0,1,4] [(0,.d (.sl (D0.rows l))),(3,.d (.int .i64 i))] [] (Ret [] (.d (.bool res)))
abbrev F15 (l:List D0)(x1:D0)(i1:Int)(k:Int)(res:Bool):Prop:=LM C 132 0 Tryz.f95 [1,0,1,4,5,1,0,4,1,1,1,1,0,1,4] [(0,.d (.sl (D0.rows l))),(3,.d (.int .i64 i1)),(4,.ref 0 0),(5,.d (.int .i64 k))] [.row (D0.cells x1) 75] (Ret [] (.d (.bool res)))
abbrev G15 (l:List D0)(x1:D0)(i2:Int)(k1:Int)(res:Bool):Prop:=LM C 132 0 Tryz.f95 [1,0,1,4,5,1,0,4,1,1,1,1,1,0,1,4] [(0,.d (.sl (D0.rows l))),(3,.d (.int .i64 i2)),(4,.ref 0 0),(6,.d (.int .i64 k1))] [.row (D0.cells x1) 75] (Ret [] (.d (.bool res)))
theorem N17:(∀ l res,Pa l=some res→Pw l res)∧(∀ l i res,Uc l i=some res→E15 l i res)∧(∀ l x1 i1 k res,Y6 l x1 i1 k=some res→F15 l x1 i1 k res)∧(∀ l x1 i2 k1 res,Z6 l x1 i2 k1=some res→G15 l x1 i2 k1 res):=by
 refine Pa.mutual_partial_correctness _ _ _ _ ?_ ?_ ?_ ?_
 ·intro g1 ih1 l res hh
  exact N0.intro hC Tryz.func95 rfl rfl rfl (t' rfl (S' (t' rfl (bk' (fw' (ih1 _ _ _ hh) rfl rfl rfl)))))
 ·intro g2 ih2 l i res hh
  refine Y0.unroll (S' (p' 2 rfl (qe' rfl trivial (D0.lenA _) (e' rfl (ci' rfl hh (fun hh=>?_) (fun hh=>?_))))))
  ·obtain ⟨x1,hx1,hh⟩:=bs' hh
   obtain ⟨x2,hx2,hh⟩:=bs' hh
   obtain ⟨x3,hx3,hh⟩:=bs' hh
   refine sk' (S' (bk' (p' 2 rfl (i' rfl (S0 hx1) (D0.idx hx1) rfl (q' rfl (K0.nf hC rfl (K0.s hC rfl (n' (S' (sg' 10 rfl (G' 2 rfl (AG.c rfl rfl (fun _=>trivial) (fun _=>Gw hx2) (G' 3 rfl ?_)))))))))))))
   refine a1' rfl (AG.c rfl rfl (fun hg=>⟨hg,trivial⟩) (fun hw=>T1a (L1 hw hx3)) (a1' rfl (po' rfl (an' (n' (ci' rfl hh (fun hh=>?_) (fun hh=>?_)))))))
   ·cases hh
    exact t' rfl (re' (rt' rfl rfl rfl))
   obtain ⟨x4,hx4,hh⟩:=bs' hh
   obtain ⟨x5,hx5,hh⟩:=bs' hh
   obtain ⟨x6,hx6,hh⟩:=bs' hh
   obtain ⟨x7,hx7,hh⟩:=bs' hh
   refine sk' (S' (sg' 31 rfl (G' 2 rfl (AG.c rfl rfl (fun _=>trivial) (fun _=>Do hx4) (G' 2 rfl (a1' rfl (AG.c rfl rfl (fun hg=>⟨hg,trivial⟩) (fun hw=>Il (L1 hw hx5)) (a1' rfl (pa' rfl (G' 2 rfl (a1' rfl (AG.c rfl rfl (fun hg=>⟨hg,trivial⟩) (fun hw=>Do (L1 hw hx6)) (a1' rfl ?_)))))))))))))
   refine a1' rfl (a0' rfl (a1' rfl (AG.c rfl rfl (fun hg=>⟨hg,trivial⟩) (fun hw=>Hl (L1 hw hx7)) (a1' rfl (pA' rfl (po' rfl (G' 2 rfl (a1' rfl (a1' rfl (a1' rfl (a0' rfl (a1' rfl (a1' rfl ?_)))))))))))))
   refine pA' rfl (po' rfl (an' (n' (ci' rfl hh (fun hh=>?_) (fun hh=>?_)))))
   ·cases hh
    exact t' rfl (re' (rt' rfl rfl rfl))
   refine sk' (S' (sg' 21 rfl (G' 5 rfl (a1' rfl (AG.qe hC rfl (fun hg=>⟨⟨hg,trivial⟩,trivial⟩) (D0.lenA _) (a1' rfl (a1' rfl (a0' rfl (a1' rfl (AG.qe hC rfl (fun hg=>⟨⟨hg,trivial⟩,trivial⟩) (D0.lenA _) (a1' rfl (pO' rfl (a1' rfl ?_)))))))))))))
   refine a0' rfl (a1' rfl (AG.qe hC rfl (fun hg=>⟨⟨hg,trivial⟩,trivial⟩) (C0.lenA _) (a1' rfl (pO' rfl (pa' rfl (an' (n' (ci' rfl hh (fun hh=>?_) (fun hh=>?_)))))))))
   ·cases hh
    exact t' rfl (re' (rt' rfl rfl rfl))
   exact sk' (S' (t' rfl (bk' (fw' (ih2 _ _ _ _ _ hh) rfl rfl rfl))))
  cases hh
  exact ex' (t' rfl (re' (rt' rfl rfl rfl)))
 ·intro g2 g3 ih2 ih3 l x1 i1 k res hh
  refine Y0.unroll (S' (p' 3 rfl (qe' rfl trivial (D0.lenA _) (e' rfl (ci' rfl hh (fun hh=>?_) (fun hh=>?_))))))
  ·obtain ⟨x8,hx8,hh⟩:=bs' hh
   obtain ⟨x9,hx9,hh⟩:=bs' hh
   refine sk' (S' (bk' (sg' 16 rfl (G' 3 rfl (AG.i hC rfl rfl (fun _=>trivial) (fun hw=>⟨S0 hx8,D0.idx hx8,rfl⟩) (G' 5 rfl (a1' rfl (a0' rfl (AG.i hC rfl rfl (fun hg=>⟨hg,hg,trivial⟩) (fun hw=>⟨S0 (L1 hw hx9),D0.idx (L1 hw hx9),rfl⟩) (a1' rfl (a1' rfl (a1' rfl (po' rfl ?_)))))))))))))
   refine an' (n' (ci' rfl hh (fun hh=>?_) (fun hh=>?_)))
   ·cases hh
    exact t' rfl (re' (rt' rfl rfl rfl))
   exact sk' (T' rfl (lw' (ih2 _ _ _ _ _ hh) rfl rfl rfl))
  exact ex' (S' (t' rfl (bk' (fw' (ih3 _ _ _ _ _ hh) rfl rfl rfl))))
 ·intro g0 g1 g3 ih0 ih1 ih3 l x1 i2 k1 res hh
  refine Y0.unroll (S' (p' 3 rfl (qe' rfl trivial (D0.lenA _) (e' rfl (ci' rfl hh (fun hh=>?_) (fun hh=>?_))))))
  ·obtain ⟨x10,hx10,hh⟩:=bs' hh
   refine sk' (S' (bk' (p' 3 rfl (i' rfl (S0 hx10) (D0.idx hx10) rfl (e' rfl (ci' rfl hh (fun hh=>?_) (fun hh=>?_)))))))
   ·cases hh
    exact t' rfl (re' (rt' rfl rfl rfl))
   exact sk' (T' rfl (lw' (ih3 _ _ _ _ _ hh) rfl rfl rfl))
  obtain ⟨x11,hx11,hh⟩:=bs' hh
  obtain ⟨x12,hx12,hh⟩:=bs' hh
  obtain ⟨x13,hx13,hh⟩:=bs' hh
  refine ex' (sg' 16 rfl (G' 2 rfl (AG.c rfl rfl (fun _=>trivial) (fun _=>ih0 _ _ hx11) (G' 3 rfl (a1' rfl (AG.c rfl rfl (fun hg=>⟨hg,trivial⟩) (fun hw=>ih0 _ _ (L1 hw hx12)) (a1' rfl (po' rfl (G' 2 rfl (a1' rfl (AG.c rfl rfl (fun hg=>⟨hg,trivial⟩) (fun hw=>Vu (L1 hw hx13)) (a1' rfl (po' rfl ?_)))))))))))))
  refine an' (n' (ci' rfl hh (fun hh=>?_) (fun hh=>?_)))
  ·cases hh
   exact t' rfl (re' (rt' rfl rfl rfl))
  exact sk' (T' rfl (lw' (ih1 _ _ _ hh) rfl rfl rfl))
theorem E19 {l res}(hh:Pa l=some res):Pw l res:=(N17).1 _ _ hh
def Em (c:Int):Option Bool:=
 some (bif (decide (c≥97)) then (decide (c≤122)) else false)
theorem Ur {c res}(hh:Em c=some res):N0 C 151 [.d (.int .u8 c)] [] (Ret [] (.d (.bool res))):=by
 unfold Em at hh
 cases hh
 exact N0.intro hC Tryz.func151 rfl rfl rfl (t' rfl (sg' 7 rfl (G' 4 rfl (a1' rfl (pa' rfl (a0' rfl (an' (n' (re' (rt' rfl rfl rfl))))))))))
def F8 (s:Str)(i1:Int):Option Bool:=
 if (decide ((IntKind.i64.wrap ((IntKind.i64.wrap (i1+((s).length:Int)))+2))≤162))=true then
  slc [32,116,121,112,101,32,115,101,99,114,101,116,32,112,117,98,108,105,99,32,114,97,110,100,111,109,32,118,97,114,32,104,97,116,99,104,32,102,117,110,99,32,114,101,116,117,114,110,32,98,101,103,105,110,32,101,110,100,32,98,111,111,108,32,105,110,116,32,97,114,114,97,121,32,111,102,32,114,101,99,111,114,100,32,116,114,117,101,32,102,97,108,115,101,32,99,97,108,108,32,114,101,108,101,97,115,101,32,111,117,116,112,117,116,32,119,97,105,116,32,105,102,32,101,108,115,101,32,119,104,105,108,101,32,108,105,109,105,116,32,102,111,114,32,116,111,32,115,101,116,116,108,101,32,109,105,110,32,109,97,120,32] i1 (IntKind.i64.wrap ((IntKind.i64.wrap (i1+((s).length:Int)))+2))>>=fun x3=>
  if (decide (1+s.length≤maxLen))=true then
   if (decide (([32]++s).length+1≤maxLen))=true then
    if (x3 == (([32]++s)++[32]))=true then
     some true
    else
     F8 s (IntKind.i64.wrap (i1+1))
   else none
  else none
 else
  some false
 partial_fixpoint
abbrev Ts (s:Str)(i1:Int)(res:Bool):Prop:=LM C 38 0 Tryz.f152 [1,1,1,0,1,4] [(0,.d (.str s)),(4,.d (.int .i64 i1))] [] (Ret [] (.d (.bool res)))
theorem E13 (s:Str):(∀ i1 res,F8 s i1=some res→Ts s i1 res):=by
 refine F8.partial_correctness s _ ?_
 ·intro g0 ih0 i1 res hh
  refine Y0.unroll (S' (t' rfl (ci' rfl hh (fun hh=>?_) (fun hh=>?_))))
  ·obtain ⟨x3,hx3,hh⟩:=bs' hh
   obtain ⟨c11,hh⟩:=U0 hh
   obtain ⟨c12,hh⟩:=U0 hh
   refine sk' (S' (bk' (p' 6 rfl (K0.lx hC rfl hx3 (q' rfl (qc' rfl c11 (qc' rfl c12 (e' rfl (ci' rfl hh (fun hh=>?_) (fun hh=>?_))))))))))
   ·cases hh
    exact t' rfl (re' (rt' rfl rfl rfl))
   exact sk' (T' rfl (lw' (ih0 _ _ hh) rfl rfl rfl))
  cases hh
  exact ex' (t' rfl (re' (rt' rfl rfl rfl)))
theorem H15 {s i1 res}(hh:F8 s i1=some res):Ts s i1 res:=(E13 s) _ _ hh
def G8 (s:Str)(i:Int):Option Bool:=
 if (decide (i < ((s).length:Int)))=true then
  idx s i>>=fun x1=>
  Em (x1.toNat:Int)>>=fun x2=>
  if (!x2)=true then
   some false
  else
   G8 s (IntKind.i64.wrap (i+1))
 else
  F8 s 0
 partial_fixpoint
abbrev Us (s:Str)(i:Int)(res:Bool):Prop:=LM C 38 0 Tryz.f152 [1,1,0,1,4] [(0,.d (.str s)),(3,.d (.int .i64 i))] [] (Ret [] (.d (.bool res)))
theorem F13 (s:Str):(∀ i res,G8 s i=some res→Us s i res):=by
 refine G8.partial_correctness s _ ?_
 ·intro g0 ih0 i res hh
  refine Y0.unroll (S' (t' rfl (ci' rfl hh (fun hh=>?_) (fun hh=>?_))))
  ·obtain ⟨x1,hx1,hh⟩:=bs' hh
   obtain ⟨x2,hx2,hh⟩:=bs' hh
   refine sk' (S' (bk' (p' 2 rfl (x' rfl (S0 hx1) (Ft hx1) (c' (Ur hx2) rfl rfl (e' rfl (ci' rfl hh (fun hh=>?_) (fun hh=>?_))))))))
   ·cases hh
    exact t' rfl (re' (rt' rfl rfl rfl))
   exact sk' (T' rfl (lw' (ih0 _ _ hh) rfl rfl rfl))
  exact ex' (S' (t' rfl (bk' (fw' (H15 hh) rfl rfl rfl))))
theorem I15 {s i res}(hh:G8 s i=some res):Us s i res:=(F13 s) _ _ hh
def Fm (s:Str):Option Bool:=
 if (((s).length:Int) == 0)=true then
  some false
 else
  G8 s 0
theorem W1a {s res}(hh:Fm s=some res):N0 C 152 [.d (.str s)] [] (Ret [] (.d (.bool res))):=by
 unfold Fm at hh
 refine N0.intro hC Tryz.func152 rfl rfl rfl (t' rfl (S' (t' rfl (ci' rfl hh (fun hh=>?_) (fun hh=>?_)))))
 ·cases hh
  exact t' rfl (re' (rt' rfl rfl rfl))
 exact sk' (S' (t' rfl (bk' (fw' (I15 hh) rfl rfl rfl))))
def Du (c:Int):Option Bool:=
 some (bif (decide (c≥48)) then (decide (c≤57)) else false)
theorem H1f {c res}(hh:Du c=some res):N0 C 153 [.d (.int .u8 c)] [] (Ret [] (.d (.bool res))):=by
 unfold Du at hh
 cases hh
 exact N0.intro hC Tryz.func153 rfl rfl rfl (t' rfl (sg' 7 rfl (G' 4 rfl (a1' rfl (pa' rfl (a0' rfl (an' (n' (re' (rt' rfl rfl rfl))))))))))
def Jh (s:Str)(atV1:Int):Option Int:=
 (if (decide (atV1 < ((s).length:Int)))=true then idx s atV1 else some default)>>=fun x1=>
 (if (decide (atV1 < ((s).length:Int)))=true then Em (x1.toNat:Int) else some default)>>=fun x2=>
 (if ((decide (atV1 < ((s).length:Int)))&&(!x2))=true then idx s atV1 else some default)>>=fun x3=>
 (if ((decide (atV1 < ((s).length:Int)))&&(!x2))=true then Du (x3.toNat:Int) else some default)>>=fun x4=>
 if (bif (decide (atV1 < ((s).length:Int))) then (bif x2 then true else x4) else false)=true then
  Jh s (IntKind.i64.wrap (atV1+1))
 else
  some atV1
 partial_fixpoint
abbrev G13 (s:Str)(atV1:Int)(res:Int):Prop:=LM C 24 0 Tryz.f150 [1,0,4] [(0,.d (.str s)),(1,.d (.int .i64 atV1))] [] (Ret [] (.d (.int .i64 res)))
theorem Z1b (s:Str):(∀ atV1 res,Jh s atV1=some res→G13 s atV1 res):=by
 refine Jh.partial_correctness s _ ?_
 ·intro g0 ih0 atV1 res hh
  obtain ⟨x1,hx1,hh⟩:=bs' hh
  obtain ⟨x2,hx2,hh⟩:=bs' hh
  obtain ⟨x3,hx3,hh⟩:=bs' hh
  obtain ⟨x4,hx4,hh⟩:=bs' hh
  refine Y0.unroll (S' (sg' 16 rfl (G' 7 rfl (AG.x hC rfl rfl (fun hg=>⟨hg,hg,trivial⟩) (fun hw=>⟨S0 (L1 hw hx1),Ft (L1 hw hx1)⟩) (AG.c rfl rfl (fun hg=>⟨hg,trivial⟩) (fun hw=>Ur (L1 hw hx2)) (a1' rfl (G' 2 rfl (AG.x hC rfl rfl (fun hg=>⟨hg,hg,trivial⟩) (fun hw=>⟨S0 (L1 hw hx3),Ft (L1 hw hx3)⟩) ?_))))))))
  refine AG.c rfl rfl (fun hg=>⟨hg,trivial⟩) (fun hw=>H1f (L1 hw hx4)) (pO' rfl (pa' rfl (an' (n' (ci' rfl hh (fun hh=>?_) (fun hh=>?_))))))
  ·exact sk' (bk' (T' rfl (lw' (ih0 _ _ hh) rfl rfl rfl)))
  cases hh
  exact ex' (t' rfl (re' (rt' rfl rfl rfl)))
theorem Z1d {s atV1 res}(hh:Jh s atV1=some res):G13 s atV1 res:=(Z1b s) _ _ hh
def Wu (s:Str)(atV:Int):Option Int:=
 Jh s atV
theorem H1j {s atV res}(hh:Wu s atV=some res):N0 C 150 [.d (.str s),.d (.int .i64 atV)] [] (Ret [] (.d (.int .i64 res))):=by
 unfold Wu at hh
 exact N0.intro hC Tryz.func150 rfl rfl rfl (t' rfl (S' (bk' (fw' (Z1d hh) rfl rfl rfl))))
def Vr (s:Str):Option Bool:=
 (if (!(bif (decide (((s).length:Int) < 1)) then true else (decide (((s).length:Int) > 12))))=true then idx s 0 else some default)>>=fun x1=>
 (if (!(bif (decide (((s).length:Int) < 1)) then true else (decide (((s).length:Int) > 12))))=true then Em (x1.toNat:Int) else some default)>>=fun x2=>
 (if (!(bif (bif (decide (((s).length:Int) < 1)) then true else (decide (((s).length:Int) > 12))) then true else (!x2)))=true then Fm s else some default)>>=fun x3=>
 if (bif (bif (bif (decide (((s).length:Int) < 1)) then true else (decide (((s).length:Int) > 12))) then true else (!x2)) then true else x3)=true then
  some false
 else
  Wu s 0>>=fun x4=>
  some (x4 == ((s).length:Int))
theorem A1e {s res}(hh:Vr s=some res):N0 C 111 [.d (.str s)] [] (Ret [] (.d (.bool res))):=by
 unfold Vr at hh
 obtain ⟨x1,hx1,hh⟩:=bs' hh
 obtain ⟨x2,hx2,hh⟩:=bs' hh
 obtain ⟨x3,hx3,hh⟩:=bs' hh
 refine N0.intro hC Tryz.func111 rfl rfl rfl (t' rfl (S' (sg' 18 rfl (G' 5 rfl (a1' rfl (a1' rfl (po' rfl (G' 2 rfl (AG.x hC rfl rfl (fun hg=>⟨hg,trivial⟩) (fun hw=>⟨S0 (L1 hw hx1),Ft (L1 hw hx1)⟩) (AG.c rfl rfl (fun hg=>⟨hg,trivial⟩) (fun hw=>Ur (L1 hw hx2)) (a1' rfl (po' rfl (G' 2 rfl ?_)))))))))))))
 refine AG.c rfl rfl (fun hg=>⟨hg,trivial⟩) (fun hw=>W1a (L1 hw hx3)) (po' rfl (an' (n' (ci' rfl hh (fun hh=>?_) (fun hh=>?_)))))
 ·cases hh
  exact t' rfl (re' (rt' rfl rfl rfl))
 obtain ⟨x4,hx4,hh⟩:=bs' hh
 cases hh
 exact sk' (p' 1 rfl (c' (H1j hx4) rfl rfl (e' rfl (re' (rt' rfl rfl rfl)))))
def T7 (s:Str):Option Bool:=
 Vr s>>=fun x1=>
 some x1
theorem Qd {s res}(hh:T7 s=some res):N0 C 55 [.d (.str s)] [] (Ret [] (.d (.bool res))):=by
 unfold T7 at hh
 obtain ⟨x1,hx1,hh⟩:=bs' hh
 cases hh
 exact N0.intro hC Tryz.func55 rfl rfl rfl (t' rfl (p' 1 rfl (c' (A1e hx1) rfl rfl (e' rfl (re' (rt' rfl rfl rfl))))))
mutual
def Qa (t:F0):Option Bool:=
 (if (t.Kind == 4)=true then T7 t.Name else some default)>>=fun x1=>
 if (bif (t.Kind == 4) then (!x1) else false)=true then
  some false
 else
  Wc t 0
 partial_fixpoint
def Wc (t:F0)(i:Int):Option Bool:=
 if (decide (i < ((t.Names).length:Int)))=true then
  idx t.Names i>>=fun x2=>
  T7 x2>>=fun x3=>
  if (!x3)=true then
   some false
  else
   Wc t (IntKind.i64.wrap (i+1))
 else
  H9 t 0
 partial_fixpoint
def H9 (t:F0)(i1:Int):Option Bool:=
 if (decide (i1 < ((t.Of).length:Int)))=true then
  idx t.Of i1>>=fun x4=>
  Qa x4>>=fun x5=>
  if (!x5)=true then
   some false
  else
   H9 t (IntKind.i64.wrap (i1+1))
 else
  some true
 partial_fixpoint
end
abbrev Rw (t:F0)(res:Bool):Prop:=N0 C 136 [.agg (F0.cells t)] [] (Ret [] (.d (.bool res)))
abbrev J15 (t:F0)(i:Int)(res:Bool):Prop:=LM C 42 0 Tryz.f136 [1,1,0,1,4] [(1,.ref 0 0),(3,.d (.int .i64 i))] [.row (F0.cells t) 48] (Ret [] (.d (.bool res)))
abbrev K15 (t:F0)(i1:Int)(res:Bool):Prop:=LM C 42 0 Tryz.f136 [1,1,1,0,1,4] [(1,.ref 0 0),(4,.d (.int .i64 i1))] [.row (F0.cells t) 48] (Ret [] (.d (.bool res)))
theorem O17:(∀ t res,Qa t=some res→Rw t res)∧(∀ t i res,Wc t i=some res→J15 t i res)∧(∀ t i1 res,H9 t i1=some res→K15 t i1 res):=by
 refine Qa.mutual_partial_correctness _ _ _ ?_ ?_ ?_
 ·intro g1 ih1 t res hh
  obtain ⟨x1,hx1,hh⟩:=bs' hh
  refine N0.intro hC Tryz.func136 rfl rfl rfl (s' rfl rfl (K0.n hC rfl (e' rfl (S' (sg' 9 rfl (G' 5 rfl (a1' rfl (AG.c rfl rfl (fun hg=>⟨hg,trivial⟩) (fun hw=>Qd (L1 hw hx1)) (a1' rfl (pa' rfl (an' (n' (ci' rfl hh (fun hh=>?_) (fun hh=>?_))))))))))))))
  ·cases hh
   exact t' rfl (re' (rt' rfl rfl rfl))
  exact sk' (S' (t' rfl (bk' (fw' (ih1 _ _ _ hh) rfl rfl rfl))))
 ·intro g1 g2 ih1 ih2 t i res hh
  refine Y0.unroll (S' (p' 3 rfl (qe' rfl trivial (estr.lenA _) (e' rfl (ci' rfl hh (fun hh=>?_) (fun hh=>?_))))))
  ·obtain ⟨x2,hx2,hh⟩:=bs' hh
   obtain ⟨x3,hx3,hh⟩:=bs' hh
   refine sk' (S' (bk' (p' 3 rfl (i' rfl (S0 hx2) (estr.idx hx2) rfl (q' rfl (c' (Qd hx3) rfl rfl (e' rfl (ci' rfl hh (fun hh=>?_) (fun hh=>?_)))))))))
   ·cases hh
    exact t' rfl (re' (rt' rfl rfl rfl))
   exact sk' (T' rfl (lw' (ih1 _ _ _ hh) rfl rfl rfl))
  exact ex' (S' (t' rfl (bk' (fw' (ih2 _ _ _ hh) rfl rfl rfl))))
 ·intro g0 g2 ih0 ih2 t i1 res hh
  refine Y0.unroll (S' (p' 3 rfl (qe' rfl trivial (F0.lenA _) (e' rfl (ci' rfl hh (fun hh=>?_) (fun hh=>?_))))))
  ·obtain ⟨x4,hx4,hh⟩:=bs' hh
   obtain ⟨x5,hx5,hh⟩:=bs' hh
   refine sk' (S' (bk' (p' 3 rfl (i' rfl (S0 hx4) (F0.idx hx4) rfl (q' rfl (c' (ih0 _ _ hx5) rfl rfl (e' rfl (ci' rfl hh (fun hh=>?_) (fun hh=>?_)))))))))
   ·cases hh
    exact t' rfl (re' (rt' rfl rfl rfl))
   exact sk' (T' rfl (lw' (ih2 _ _ _ hh) rfl rfl rfl))
  cases hh
  exact ex' (t' rfl (re' (rt' rfl rfl rfl)))
theorem F19 {t res}(hh:Qa t=some res):Rw t res:=(O17).1 _ _ hh
mutual
def X4 (e:A0):Option Bool:=
 (if (bif (e.Op == 3) then true else (e.Op == 4))=true then T7 e.Name else some default)>>=fun x1=>
 if (bif (bif (e.Op == 3) then true else (e.Op == 4)) then (!x1) else false)=true then
  some false
 else
  Xc e 0
 partial_fixpoint
def Xc (e:A0)(i:Int):Option Bool:=
 if (decide (i < ((e.Kids).length:Int)))=true then
  idx e.Kids i>>=fun x2=>
  X4 x2>>=fun x3=>
  if (!x3)=true then
   some false
  else
   Xc e (IntKind.i64.wrap (i+1))
 else
  some true
 partial_fixpoint
end
abbrev Sw (e:A0)(res:Bool):Prop:=N0 C 125 [.agg (A0.cells e)] [] (Ret [] (.d (.bool res)))
abbrev L15 (e:A0)(i:Int)(res:Bool):Prop:=LM C 32 0 Tryz.f125 [1,1,0,1,4] [(1,.ref 0 0),(3,.d (.int .i64 i))] [.row (A0.cells e) 40] (Ret [] (.d (.bool res)))
theorem P17:(∀ e res,X4 e=some res→Sw e res)∧(∀ e i res,Xc e i=some res→L15 e i res):=by
 refine X4.mutual_partial_correctness _ _ ?_ ?_
 ·intro g1 ih1 e res hh
  obtain ⟨x1,hx1,hh⟩:=bs' hh
  refine N0.intro hC Tryz.func125 rfl rfl rfl (s' rfl rfl (K0.n hC rfl (e' rfl (S' (sg' 14 rfl (G' 5 rfl (a1' rfl (a1' rfl (po' rfl (G' 2 rfl (a1' rfl (AG.c rfl rfl (fun hg=>⟨hg,trivial⟩) (fun hw=>Qd (L1 hw hx1)) (a1' rfl ?_)))))))))))))
  refine pa' rfl (an' (n' (ci' rfl hh (fun hh=>?_) (fun hh=>?_))))
  ·cases hh
   exact t' rfl (re' (rt' rfl rfl rfl))
  exact sk' (S' (t' rfl (bk' (fw' (ih1 _ _ _ hh) rfl rfl rfl))))
 ·intro g0 g1 ih0 ih1 e i res hh
  refine Y0.unroll (S' (p' 3 rfl (qe' rfl trivial (A0.lenA _) (e' rfl (ci' rfl hh (fun hh=>?_) (fun hh=>?_))))))
  ·obtain ⟨x2,hx2,hh⟩:=bs' hh
   obtain ⟨x3,hx3,hh⟩:=bs' hh
   refine sk' (S' (bk' (p' 3 rfl (i' rfl (S0 hx2) (A0.idx hx2) rfl (q' rfl (c' (ih0 _ _ hx3) rfl rfl (e' rfl (ci' rfl hh (fun hh=>?_) (fun hh=>?_)))))))))
   ·cases hh
    exact t' rfl (re' (rt' rfl rfl rfl))
   exact sk' (T' rfl (lw' (ih1 _ _ _ hh) rfl rfl rfl))
  cases hh
  exact ex' (t' rfl (re' (rt' rfl rfl rfl)))
theorem Ik {e res}(hh:X4 e=some res):Sw e res:=(P17).1 _ _ hh
end Go.Proofs.YtbmlpamppbcdeaaGreatDoor

