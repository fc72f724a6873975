/- A part of the proof of CatalogKnown. -/
import Derived.Test.YtbaijagfgceilaaGreatDoorDgA
import Derived.Test.YtbaijagfgceilaaGreatDoorAmB
set_option maxRecDepth 100000
set_option maxHeartbeats 4000000
set_option synthInstance.maxSize 20000
set_option linter.unusedVariables false
namespace Go.Proofs.YtbaijagfgceilaaGreatDoor
open Go.Am
def A4 (o02:A0)(x1:Str×A0)(x7:L0×A0)(o2_Params2:List E0)(o2_Vars:List E0):Option (Pn (E0×A0)):=
 S0 [118,97,114] o02>>=fun x9=>
 if x9.1=true then
  B6 x9.2>>=fun x10=>match x10 with
  | .pn nn=>
  some (.pn nn)
  | .ok x10=>
  if (decide ((o2_Vars.length+1) * 257≤140737488355328))=true then
   A4 x10.2 x1 x7 o2_Params2 (o2_Vars++[x10.1])
  else none
 else
  W3 x9.2>>=fun x11=>match x11 with
  | .pn nn=>
  some (.pn nn)
  | .ok x11=>
  U0 [114,101,116,117,114,110] x11.2>>=fun x12=>match x12 with
  | .pn nn=>
  some (.pn nn)
  | .ok x12=>
  T1 x12>>=fun x13=>match x13 with
  | .pn nn=>
  some (.pn nn)
  | .ok x13=>
  U0 [59] x13.2>>=fun x14=>match x14 with
  | .pn nn=>
  some (.pn nn)
  | .ok x14=>
  U0 [125] x14>>=fun x15=>match x15 with
  | .pn nn=>
  some (.pn nn)
  | .ok x15=>
  some (.ok ((E0.mk 6 x1.1 x7.1 0 x13.1 o2_Params2 o2_Vars x11.1),x15))
 partial_fixpoint
abbrev Rg (o02:A0)(x1:Str×A0)(x7:L0×A0)(o2_Params2:List E0)(o2_Vars:List E0)(res:Pn (E0×A0)):Prop:=LMp C 58 1 Tryz.f103 [1,1,1,1,1,1,1,1,0,4] [(0,.ref 0 0),(2,.ref 1 0),(3,.ref 2 0)] [.row (A0.cells o02) 112,.row [.d (.int .i64 0),.d (.str []),.d (.int .i64 0),.d (.int .i64 0),.d (.int .i64 0),.d (.int .i64 0),.d (.str []),.full (estr.rows []),.full (L0.rows []),.d (.int .i64 0),.d (.int .i64 0),.d (.int .i64 0),.d (.str []),.full (B0.rows []),.full (E0.rows []),.full (E0.rows []),.full (J0.rows [])] 82,.row [.d (.int .i64 6),.d (.str x1.1),.d (.int .i64 x7.1.Kind),.d (.int .i64 x7.1.Low),.d (.int .i64 x7.1.High),.d (.int .i64 x7.1.Size),.d (.str x7.1.Name),.d (.sl (estr.rows x7.1.Names)),.d (.sl (L0.rows x7.1.Of)),.d (.int .i64 0),.d (.int .i64 0),.d (.int .i64 0),.d (.str []),.full (B0.rows []),.osl 3 (E0.rows o2_Params2),.osl 4 (E0.rows o2_Vars),.full (J0.rows [])] 82,.tok 82 17,.tok 82 17] (N4 res (fun rr=>[.row (A0.cells rr.2) 112]) (fun rr=>.agg (E0.cells rr.1))) (F4 res M3 [.dead])
theorem Dm (x1:Str×A0)(x7:L0×A0)(o2_Params2:List E0):(∀ o02 o2_Vars res,A4 o02 x1 x7 o2_Params2 o2_Vars=some res→Rg o02 x1 x7 o2_Params2 o2_Vars res):=by
 refine A4.partial_correctness x1 x7 o2_Params2 _ ?_
 ·intro g0 ih0 o02 o2_Vars res hh
  obtain ⟨x9,hx9,hh⟩:=bs' hh
  refine F1.unroll (S' (p' 1 rfl (gq [0] (O0 hx9) rfl (n' (ci' rfl hh (fun hh=>?_) (fun hh=>?_))))))
  ·refine sk' (bk' ?_)
   rcases bp' hh with ⟨nn,hx10,⟨⟩⟩ | ⟨x10,hx10,hh⟩
   ·refine AEx.drawE hC ?_
    refine st2 0 2 rfl (by kernel_rfl) rfl rfl ?_ ?_
    ·refine e' rfl ?_
     refine st2 1 2 rfl (by kernel_rfl) rfl rfl ?_ ?_
     ·refine e' rfl ?_
      refine st1 2 rfl (by kernel_rfl) rfl ?_
      refine e' rfl ?_
      refine st1 3 rfl (by kernel_rfl) rfl ?_
      exact gr [0] (E2 hx10) rfl (peW ⟨trivial,trivial⟩ rfl)
     ·refine e' rfl ?_
      refine st2 1 3 rfl (by kernel_rfl) rfl rfl ?_ ?_
      ·refine e' rfl ?_
       refine st1 3 rfl (by kernel_rfl) rfl ?_
       exact gr [0] (E2 hx10) rfl (peW ⟨trivial,trivial⟩ rfl)
      ·exact gr [0] (E2 hx10) rfl (peW ⟨trivial,trivial⟩ rfl)
    ·refine e' rfl ?_
     refine st2 0 3 rfl (by kernel_rfl) rfl rfl ?_ ?_
     ·refine e' rfl ?_
      refine st2 1 3 rfl (by kernel_rfl) rfl rfl ?_ ?_
      ·refine e' rfl ?_
       refine st1 3 rfl (by kernel_rfl) rfl ?_
       exact gr [0] (E2 hx10) rfl (peW ⟨trivial,trivial⟩ rfl)
      ·exact gr [0] (E2 hx10) rfl (peW ⟨trivial,trivial⟩ rfl)
     ·exact gr [0] (E2 hx10) rfl (peW ⟨trivial,trivial⟩ rfl)
   obtain ⟨c32,hh⟩:=R4 hh
   refine AEx.drawE hC ?_
   refine st2 0 2 rfl (by kernel_rfl) rfl rfl ?_ ?_
   ·refine e' rfl ?_
    refine st2 1 2 rfl (by kernel_rfl) rfl rfl ?_ ?_
    ·refine e' rfl ?_
     refine st1 2 rfl (by kernel_rfl) rfl ?_
     refine e' rfl ?_
     refine st1 3 rfl (by kernel_rfl) rfl ?_
     refine gq [0] ((E2 hx10).ok) rfl (n' ?_)
     refine st1 4 rfl (by kernel_rfl) rfl ?_
     refine C0.be hC rfl (E0.rows_map [x10.1]).symm (n' ?_)
     refine st1 5 rfl (by kernel_rfl) rfl ?_
     refine C0.ap hC rfl (rs:=E0.rows (o2_Vars++[x10.1])) (E0.app o2_Vars [x10.1]) (E0.sz o2_Vars) (E0.sz [x10.1]) (V1 (E0.len o2_Vars) (E0.len [x10.1]) c32) (n' ?_)
     refine st1 6 rfl (by kernel_rfl) rfl ?_
     refine e' rfl ?_
     refine st1 7 rfl (by kernel_rfl) rfl ?_
     exact C0.s hC rfl (n' (V0.nil (by kernel_rfl) (lq (ih0 _ _ _ hh) rfl)))
    ·refine e' rfl ?_
     refine st2 1 3 rfl (by kernel_rfl) rfl rfl ?_ ?_
     ·refine e' rfl ?_
      refine st1 3 rfl (by kernel_rfl) rfl ?_
      refine gq [0] ((E2 hx10).ok) rfl (n' ?_)
      refine st1 4 rfl (by kernel_rfl) rfl ?_
      refine C0.be hC rfl (E0.rows_map [x10.1]).symm (n' ?_)
      refine st1 5 rfl (by kernel_rfl) rfl ?_
      refine C0.ap hC rfl (rs:=E0.rows (o2_Vars++[x10.1])) (E0.app o2_Vars [x10.1]) (E0.sz o2_Vars) (E0.sz [x10.1]) (V1 (E0.len o2_Vars) (E0.len [x10.1]) c32) (n' ?_)
      refine st1 6 rfl (by kernel_rfl) rfl ?_
      refine e' rfl ?_
      refine st1 7 rfl (by kernel_rfl) rfl ?_
      exact C0.s hC rfl (n' (V0.nil (by kernel_rfl) (lq (ih0 _ _ _ hh) rfl)))
     ·refine gq [0] ((E2 hx10).ok) rfl (n' ?_)
      refine st2 1 4 rfl (by kernel_rfl) rfl rfl ?_ ?_
      ·refine e' rfl ?_
       refine st1 4 rfl (by kernel_rfl) rfl ?_
       refine C0.be hC rfl (E0.rows_map [x10.1]).symm (n' ?_)
       refine st1 5 rfl (by kernel_rfl) rfl ?_
       refine C0.ap hC rfl (rs:=E0.rows (o2_Vars++[x10.1])) (E0.app o2_Vars [x10.1]) (E0.sz o2_Vars) (E0.sz [x10.1]) (V1 (E0.len o2_Vars) (E0.len [x10.1]) c32) (n' ?_)
       refine st1 6 rfl (by kernel_rfl) rfl ?_
       refine e' rfl ?_
       refine st1 7 rfl (by kernel_rfl) rfl ?_
       exact C0.s hC rfl (n' (V0.nil (by kernel_rfl) (lq (ih0 _ _ _ hh) rfl)))
      ·refine C0.be hC rfl (E0.rows_map [x10.1]).symm (n' ?_)
       refine st1 1 rfl (by kernel_rfl) rfl ?_
       refine e' rfl ?_
       refine st1 5 rfl (by kernel_rfl) rfl ?_
       refine C0.ap hC rfl (rs:=E0.rows (o2_Vars++[x10.1])) (E0.app o2_Vars [x10.1]) (E0.sz o2_Vars) (E0.sz [x10.1]) (V1 (E0.len o2_Vars) (E0.len [x10.1]) c32) (n' ?_)
       refine st1 6 rfl (by kernel_rfl) rfl ?_
       refine e' rfl ?_
       refine st1 7 rfl (by kernel_rfl) rfl ?_
       exact C0.s hC rfl (n' (V0.nil (by kernel_rfl) (lq (ih0 _ _ _ hh) rfl)))
   ·refine e' rfl ?_
    refine st2 0 3 rfl (by kernel_rfl) rfl rfl ?_ ?_
    ·refine e' rfl ?_
     refine st2 1 3 rfl (by kernel_rfl) rfl rfl ?_ ?_
     ·refine e' rfl ?_
      refine st1 3 rfl (by kernel_rfl) rfl ?_
      refine gq [0] ((E2 hx10).ok) rfl (n' ?_)
      refine st1 4 rfl (by kernel_rfl) rfl ?_
      refine C0.be hC rfl (E0.rows_map [x10.1]).symm (n' ?_)
      refine st1 5 rfl (by kernel_rfl) rfl ?_
      refine C0.ap hC rfl (rs:=E0.rows (o2_Vars++[x10.1])) (E0.app o2_Vars [x10.1]) (E0.sz o2_Vars) (E0.sz [x10.1]) (V1 (E0.len o2_Vars) (E0.len [x10.1]) c32) (n' ?_)
      refine st1 6 rfl (by kernel_rfl) rfl ?_
      refine e' rfl ?_
      refine st1 7 rfl (by kernel_rfl) rfl ?_
      exact C0.s hC rfl (n' (V0.nil (by kernel_rfl) (lq (ih0 _ _ _ hh) rfl)))
     ·refine gq [0] ((E2 hx10).ok) rfl (n' ?_)
      refine st2 1 4 rfl (by kernel_rfl) rfl rfl ?_ ?_
      ·refine e' rfl ?_
       refine st1 4 rfl (by kernel_rfl) rfl ?_
       refine C0.be hC rfl (E0.rows_map [x10.1]).symm (n' ?_)
       refine st1 5 rfl (by kernel_rfl) rfl ?_
       refine C0.ap hC rfl (rs:=E0.rows (o2_Vars++[x10.1])) (E0.app o2_Vars [x10.1]) (E0.sz o2_Vars) (E0.sz [x10.1]) (V1 (E0.len o2_Vars) (E0.len [x10.1]) c32) (n' ?_)
       refine st1 6 rfl (by kernel_rfl) rfl ?_
       refine e' rfl ?_
       refine st1 7 rfl (by kernel_rfl) rfl ?_
       exact C0.s hC rfl (n' (V0.nil (by kernel_rfl) (lq (ih0 _ _ _ hh) rfl)))
      ·refine C0.be hC rfl (E0.rows_map [x10.1]).symm (n' ?_)
       refine st1 1 rfl (by kernel_rfl) rfl ?_
       refine e' rfl ?_
       refine st1 5 rfl (by kernel_rfl) rfl ?_
       refine C0.ap hC rfl (rs:=E0.rows (o2_Vars++[x10.1])) (E0.app o2_Vars [x10.1]) (E0.sz o2_Vars) (E0.sz [x10.1]) (V1 (E0.len o2_Vars) (E0.len [x10.1]) c32) (n' ?_)
       refine st1 6 rfl (by kernel_rfl) rfl ?_
       refine e' rfl ?_
       refine st1 7 rfl (by kernel_rfl) rfl ?_
       exact C0.s hC rfl (n' (V0.nil (by kernel_rfl) (lq (ih0 _ _ _ hh) rfl)))
    ·refine gq [0] ((E2 hx10).ok) rfl (n' ?_)
     refine st2 0 4 rfl (by kernel_rfl) rfl rfl ?_ ?_
     ·refine e' rfl ?_
      refine st2 1 4 rfl (by kernel_rfl) rfl rfl ?_ ?_
      ·refine e' rfl ?_
       refine st1 4 rfl (by kernel_rfl) rfl ?_
       refine C0.be hC rfl (E0.rows_map [x10.1]).symm (n' ?_)
       refine st1 5 rfl (by kernel_rfl) rfl ?_
       refine C0.ap hC rfl (rs:=E0.rows (o2_Vars++[x10.1])) (E0.app o2_Vars [x10.1]) (E0.sz o2_Vars) (E0.sz [x10.1]) (V1 (E0.len o2_Vars) (E0.len [x10.1]) c32) (n' ?_)
       refine st1 6 rfl (by kernel_rfl) rfl ?_
       refine e' rfl ?_
       refine st1 7 rfl (by kernel_rfl) rfl ?_
       exact C0.s hC rfl (n' (V0.nil (by kernel_rfl) (lq (ih0 _ _ _ hh) rfl)))
      ·refine C0.be hC rfl (E0.rows_map [x10.1]).symm (n' ?_)
       refine st1 1 rfl (by kernel_rfl) rfl ?_
       refine e' rfl ?_
       refine st1 5 rfl (by kernel_rfl) rfl ?_
       refine C0.ap hC rfl (rs:=E0.rows (o2_Vars++[x10.1])) (E0.app o2_Vars [x10.1]) (E0.sz o2_Vars) (E0.sz [x10.1]) (V1 (E0.len o2_Vars) (E0.len [x10.1]) c32) (n' ?_)
       refine st1 6 rfl (by kernel_rfl) rfl ?_
       refine e' rfl ?_
       refine st1 7 rfl (by kernel_rfl) rfl ?_
       exact C0.s hC rfl (n' (V0.nil (by kernel_rfl) (lq (ih0 _ _ _ hh) rfl)))
     ·refine C0.be hC rfl (E0.rows_map [x10.1]).symm (n' ?_)
      refine st1 0 rfl (by kernel_rfl) rfl ?_
      refine e' rfl ?_
      refine st1 1 rfl (by kernel_rfl) rfl ?_
      refine e' rfl ?_
      refine st1 5 rfl (by kernel_rfl) rfl ?_
      refine C0.ap hC rfl (rs:=E0.rows (o2_Vars++[x10.1])) (E0.app o2_Vars [x10.1]) (E0.sz o2_Vars) (E0.sz [x10.1]) (V1 (E0.len o2_Vars) (E0.len [x10.1]) c32) (n' ?_)
      refine st1 6 rfl (by kernel_rfl) rfl ?_
      refine e' rfl ?_
      refine st1 7 rfl (by kernel_rfl) rfl ?_
      exact C0.s hC rfl (n' (V0.nil (by kernel_rfl) (lq (ih0 _ _ _ hh) rfl)))
  refine ex' (p' 1 rfl ?_)
  rcases bp' hh with ⟨nn,hx11,⟨⟩⟩ | ⟨x11,hx11,hh⟩
  ·exact gr [0] (U7 hx11) rfl (peW ⟨trivial,trivial⟩ rfl)
  refine gq [0] ((U7 hx11).ok) rfl (q' rfl (C0.s hC rfl (n' (p' 1 rfl ?_))))
  rcases bp' hh with ⟨nn,hx12,⟨⟩⟩ | ⟨x12,hx12,hh⟩
  ·exact gr [0] (F0 hx12) rfl (peW ⟨trivial,trivial⟩ rfl)
  refine gq [0] ((F0 hx12).ok) rfl (n' (p' 1 rfl ?_))
  rcases bp' hh with ⟨nn,hx13,⟨⟩⟩ | ⟨x13,hx13,hh⟩
  ·exact gr [0] (T0 hx13) rfl (peW ⟨trivial,trivial⟩ rfl)
  refine gq [0] ((T0 hx13).ok) rfl (q' rfl (C0.s hC rfl (n' (p' 1 rfl ?_))))
  rcases bp' hh with ⟨nn,hx14,⟨⟩⟩ | ⟨x14,hx14,hh⟩
  ·exact gr [0] (F0 hx14) rfl (peW ⟨trivial,trivial⟩ rfl)
  refine gq [0] ((F0 hx14).ok) rfl (n' (p' 1 rfl ?_))
  rcases bp' hh with ⟨nn,hx15,⟨⟩⟩ | ⟨x15,hx15,hh⟩
  ·exact gr [0] (F0 hx15) rfl (peW ⟨trivial,trivial⟩ rfl)
  refine gq [0] ((F0 hx15).ok) rfl (n' (p' 1 rfl (C0.s hC rfl (n' (re' ?_)))))
  have hq:=oi' hh
  subst hq
  exact ⟨_,.agg [.d (.int .i64 6),.d (.str x1.1),.d (.int .i64 x7.1.Kind),.d (.int .i64 x7.1.Low),.d (.int .i64 x7.1.High),.d (.int .i64 x7.1.Size),.d (.str x7.1.Name),.d (.sl (estr.rows x7.1.Names)),.d (.sl (L0.rows x7.1.Of)),.d (.int .i64 0),.d (.int .i64 x13.1.Op),.d (.int .i64 x13.1.NV),.d (.str x13.1.Name),.d (.sl (B0.rows x13.1.Kids)),.d (.sl (E0.rows o2_Params2)),.d (.sl (E0.rows o2_Vars)),.d (.sl (J0.rows x11.1))],[.row (A0.cells x15) 112],rfl,(.aggL ⟨.rfl,.rfl,.rfl,.rfl,.rfl,.rfl,.rfl,.rfl,.rfl,.rfl,.rfl,.rfl,.rfl,.rfl,.osl,.osl,.rfl,trivial⟩),⟨⟨rfl,.refl _,rfl⟩,trivial⟩,rfl,rfl,rpq rfl rfl⟩
theorem Ym {o02 x1 x7 o2_Params2 o2_Vars res}(hh:A4 o02 x1 x7 o2_Params2 o2_Vars=some res):Rg o02 x1 x7 o2_Params2 o2_Vars res:=(Dm x1 x7 o2_Params2) _ _ _ hh
def E5 (o01:A0)(x1:Str×A0)(o2_Params1:List E0):Option (Pn (E0×A0)):=
 U0 [41] o01>>=fun x5=>match x5 with
 | .pn nn=>
 some (.pn nn)
 | .ok x5=>
 U0 [58] x5>>=fun x6=>match x6 with
 | .pn nn=>
 some (.pn nn)
 | .ok x6=>
 T4 x6>>=fun x7=>match x7 with
 | .pn nn=>
 some (.pn nn)
 | .ok x7=>
 U0 [123] x7.2>>=fun x8=>match x8 with
 | .pn nn=>
 some (.pn nn)
 | .ok x8=>
 A4 x8 x1 x7 o2_Params1 []
theorem Zf {o01 x1 o2_Params1 res}(hh:E5 o01 x1 o2_Params1=some res):JMp C 58 1 Tryz.f103 [1,1,1,1] [(0,.ref 0 0),(2,.ref 1 0),(3,.ref 2 0)] [.row (A0.cells o01) 112,.row [.d (.int .i64 0),.d (.str []),.d (.int .i64 0),.d (.int .i64 0),.d (.int .i64 0),.d (.int .i64 0),.d (.str []),.full (estr.rows []),.full (L0.rows []),.d (.int .i64 0),.d (.int .i64 0),.d (.int .i64 0),.d (.str []),.full (B0.rows []),.full (E0.rows []),.full (E0.rows []),.full (J0.rows [])] 82,.row [.d (.int .i64 6),.d (.str x1.1),.d (.int .i64 0),.d (.int .i64 0),.d (.int .i64 0),.d (.int .i64 0),.d (.str []),.full (estr.rows []),.full (L0.rows []),.d (.int .i64 0),.d (.int .i64 0),.d (.int .i64 0),.d (.str []),.full (B0.rows []),.osl 3 (E0.rows o2_Params1),.osl 4 (E0.rows []),.full (J0.rows [])] 82,.tok 82 17,.tok 82 17] (N4 res (fun rr=>[.row (A0.cells rr.2) 112]) (fun rr=>.agg (E0.cells rr.1))) (F4 res M3 [.dead]):=by
 unfold E5 at hh
 refine p' 1 rfl ?_
 rcases bp' hh with ⟨nn,hx5,⟨⟩⟩ | ⟨x5,hx5,hh⟩
 ·exact gr [0] (F0 hx5) rfl (peW ⟨trivial,trivial⟩ rfl)
 refine gq [0] ((F0 hx5).ok) rfl (n' (p' 1 rfl ?_))
 rcases bp' hh with ⟨nn,hx6,⟨⟩⟩ | ⟨x6,hx6,hh⟩
 ·exact gr [0] (F0 hx6) rfl (peW ⟨trivial,trivial⟩ rfl)
 refine gq [0] ((F0 hx6).ok) rfl (n' (p' 1 rfl ?_))
 rcases bp' hh with ⟨nn,hx7,⟨⟩⟩ | ⟨x7,hx7,hh⟩
 ·exact gr [0] (P7 hx7) rfl (peW ⟨trivial,trivial⟩ rfl)
 refine gq [0] ((P7 hx7).ok) rfl (q' rfl (C0.s hC rfl (n' (p' 1 rfl ?_))))
 rcases bp' hh with ⟨nn,hx8,⟨⟩⟩ | ⟨x8,hx8,hh⟩
 ·exact gr [0] (F0 hx8) rfl (peW ⟨trivial,trivial⟩ rfl)
 exact gq [0] ((F0 hx8).ok) rfl (n' (S' (bk' (fq (Ym hh) rfl))))
def B4 (o0:A0)(x1:Str×A0)(o2_Params:List E0):Option (Pn (E0×A0)):=
 S0 [44] o0>>=fun x16=>
 if x16.1=true then
  Y3 4 x16.2>>=fun x17=>match x17 with
  | .pn nn=>
  some (.pn nn)
  | .ok x17=>
  if (decide ((o2_Params.length+1) * 257≤140737488355328))=true then
   B4 x17.2 x1 (o2_Params++[x17.1])
  else none
 else
  E5 x16.2 x1 o2_Params
 partial_fixpoint
abbrev Sg (o0:A0)(x1:Str×A0)(o2_Params:List E0)(res:Pn (E0×A0)):Prop:=LMp C 58 1 Tryz.f103 [1,1,1,0,1,2,1,4] [(0,.ref 0 0),(2,.ref 1 0),(3,.ref 2 0)] [.row (A0.cells o0) 112,.row [.d (.int .i64 0),.d (.str []),.d (.int .i64 0),.d (.int .i64 0),.d (.int .i64 0),.d (.int .i64 0),.d (.str []),.full (estr.rows []),.full (L0.rows []),.d (.int .i64 0),.d (.int .i64 0),.d (.int .i64 0),.d (.str []),.full (B0.rows []),.full (E0.rows []),.full (E0.rows []),.full (J0.rows [])] 82,.row [.d (.int .i64 6),.d (.str x1.1),.d (.int .i64 0),.d (.int .i64 0),.d (.int .i64 0),.d (.int .i64 0),.d (.str []),.full (estr.rows []),.full (L0.rows []),.d (.int .i64 0),.d (.int .i64 0),.d (.int .i64 0),.d (.str []),.full (B0.rows []),.osl 3 (E0.rows o2_Params),.osl 4 (E0.rows []),.full (J0.rows [])] 82,.tok 82 17,.tok 82 17] (N4 res (fun rr=>[.row (A0.cells rr.2) 112]) (fun rr=>.agg (E0.cells rr.1))) (F4 res M3 [.dead])
theorem Em (x1:Str×A0):(∀ o0 o2_Params res,B4 o0 x1 o2_Params=some res→Sg o0 x1 o2_Params res):=by
 refine B4.partial_correctness x1 _ ?_
 ·intro g0 ih0 o0 o2_Params res hh
  obtain ⟨x16,hx16,hh⟩:=bs' hh
  refine F1.unroll (S' (p' 1 rfl (gq [0] (O0 hx16) rfl (n' (ci' rfl hh (fun hh=>?_) (fun hh=>?_))))))
  ·refine sk' (bk' ?_)
   rcases bp' hh with ⟨nn,hx17,⟨⟩⟩ | ⟨x17,hx17,hh⟩
   ·refine AEx.drawE hC ?_
    refine st2 0 2 rfl (by kernel_rfl) rfl rfl ?_ ?_
    ·refine e' rfl ?_
     refine st2 1 2 rfl (by kernel_rfl) rfl rfl ?_ ?_
     ·refine e' rfl ?_
      refine st1 2 rfl (by kernel_rfl) rfl ?_
      refine e' rfl ?_
      refine st1 3 rfl (by kernel_rfl) rfl ?_
      exact gr [0] (A1 hx17) rfl (peW ⟨trivial,trivial⟩ rfl)
     ·refine e' rfl ?_
      refine st2 1 3 rfl (by kernel_rfl) rfl rfl ?_ ?_
      ·refine e' rfl ?_
       refine st1 3 rfl (by kernel_rfl) rfl ?_
       exact gr [0] (A1 hx17) rfl (peW ⟨trivial,trivial⟩ rfl)
      ·exact gr [0] (A1 hx17) rfl (peW ⟨trivial,trivial⟩ rfl)
    ·refine e' rfl ?_
     refine st2 0 3 rfl (by kernel_rfl) rfl rfl ?_ ?_
     ·refine e' rfl ?_
      refine st2 1 3 rfl (by kernel_rfl) rfl rfl ?_ ?_
      ·refine e' rfl ?_
       refine st1 3 rfl (by kernel_rfl) rfl ?_
       exact gr [0] (A1 hx17) rfl (peW ⟨trivial,trivial⟩ rfl)
      ·exact gr [0] (A1 hx17) rfl (peW ⟨trivial,trivial⟩ rfl)
     ·exact gr [0] (A1 hx17) rfl (peW ⟨trivial,trivial⟩ rfl)
   obtain ⟨c31,hh⟩:=R4 hh
   refine AEx.drawE hC ?_
   refine st2 0 2 rfl (by kernel_rfl) rfl rfl ?_ ?_
   ·refine e' rfl ?_
    refine st2 1 2 rfl (by kernel_rfl) rfl rfl ?_ ?_
    ·refine e' rfl ?_
     refine st1 2 rfl (by kernel_rfl) rfl ?_
     refine e' rfl ?_
     refine st1 3 rfl (by kernel_rfl) rfl ?_
     refine gq [0] ((A1 hx17).ok) rfl (n' ?_)
     refine st1 4 rfl (by kernel_rfl) rfl ?_
     refine C0.be hC rfl (E0.rows_map [x17.1]).symm (n' ?_)
     refine st1 5 rfl (by kernel_rfl) rfl ?_
     refine C0.ap hC rfl (rs:=E0.rows (o2_Params++[x17.1])) (E0.app o2_Params [x17.1]) (E0.sz o2_Params) (E0.sz [x17.1]) (V1 (E0.len o2_Params) (E0.len [x17.1]) c31) (n' ?_)
     refine st1 6 rfl (by kernel_rfl) rfl ?_
     refine e' rfl ?_
     refine st1 7 rfl (by kernel_rfl) rfl ?_
     exact C0.s hC rfl (n' (V0.nil (by kernel_rfl) (lq (ih0 _ _ _ hh) rfl)))
    ·refine e' rfl ?_
     refine st2 1 3 rfl (by kernel_rfl) rfl rfl ?_ ?_
     ·refine e' rfl ?_
      refine st1 3 rfl (by kernel_rfl) rfl ?_
      refine gq [0] ((A1 hx17).ok) rfl (n' ?_)
      refine st1 4 rfl (by kernel_rfl) rfl ?_
      refine C0.be hC rfl (E0.rows_map [x17.1]).symm (n' ?_)
      refine st1 5 rfl (by kernel_rfl) rfl ?_
      refine C0.ap hC rfl (rs:=E0.rows (o2_Params++[x17.1])) (E0.app o2_Params [x17.1]) (E0.sz o2_Params) (E0.sz [x17.1]) (V1 (E0.len o2_Params) (E0.len [x17.1]) c31) (n' ?_)
      refine st1 6 rfl (by kernel_rfl) rfl ?_
      refine e' rfl ?_
      refine st1 7 rfl (by kernel_rfl) rfl ?_
      exact C0.s hC rfl (n' (V0.nil (by kernel_rfl) (lq (ih0 _ _ _ hh) rfl)))
     ·refine gq [0] ((A1 hx17).ok) rfl (n' ?_)
      refine st2 1 4 rfl (by kernel_rfl) rfl rfl ?_ ?_
      ·refine e' rfl ?_
       refine st1 4 rfl (by kernel_rfl) rfl ?_
       refine C0.be hC rfl (E0.rows_map [x17.1]).symm (n' ?_)
       refine st1 5 rfl (by kernel_rfl) rfl ?_
       refine C0.ap hC rfl (rs:=E0.rows (o2_Params++[x17.1])) (E0.app o2_Params [x17.1]) (E0.sz o2_Params) (E0.sz [x17.1]) (V1 (E0.len o2_Params) (E0.len [x17.1]) c31) (n' ?_)
       refine st1 6 rfl (by kernel_rfl) rfl ?_
       refine e' rfl ?_
       refine st1 7 rfl (by kernel_rfl) rfl ?_
       exact C0.s hC rfl (n' (V0.nil (by kernel_rfl) (lq (ih0 _ _ _ hh) rfl)))
      ·refine C0.be hC rfl (E0.rows_map [x17.1]).symm (n' ?_)
       refine st1 1 rfl (by kernel_rfl) rfl ?_
       refine e' rfl ?_
       refine st1 5 rfl (by kernel_rfl) rfl ?_
       refine C0.ap hC rfl (rs:=E0.rows (o2_Params++[x17.1])) (E0.app o2_Params [x17.1]) (E0.sz o2_Params) (E0.sz [x17.1]) (V1 (E0.len o2_Params) (E0.len [x17.1]) c31) (n' ?_)
       refine st1 6 rfl (by kernel_rfl) rfl ?_
       refine e' rfl ?_
       refine st1 7 rfl (by kernel_rfl) rfl ?_
       exact C0.s hC rfl (n' (V0.nil (by kernel_rfl) (lq (ih0 _ _ _ hh) rfl)))
   ·refine e' rfl ?_
    refine st2 0 3 rfl (by kernel_rfl) rfl rfl ?_ ?_
    ·refine e' rfl ?_
     refine st2 1 3 rfl (by kernel_rfl) rfl rfl ?_ ?_
     ·refine e' rfl ?_
      refine st1 3 rfl (by kernel_rfl) rfl ?_
      refine gq [0] ((A1 hx17).ok) rfl (n' ?_)
      refine st1 4 rfl (by kernel_rfl) rfl ?_
      refine C0.be hC rfl (E0.rows_map [x17.1]).symm (n' ?_)
      refine st1 5 rfl (by kernel_rfl) rfl ?_
      refine C0.ap hC rfl (rs:=E0.rows (o2_Params++[x17.1])) (E0.app o2_Params [x17.1]) (E0.sz o2_Params) (E0.sz [x17.1]) (V1 (E0.len o2_Params) (E0.len [x17.1]) c31) (n' ?_)
      refine st1 6 rfl (by kernel_rfl) rfl ?_
      refine e' rfl ?_
      refine st1 7 rfl (by kernel_rfl) rfl ?_
      exact C0.s hC rfl (n' (V0.nil (by kernel_rfl) (lq (ih0 _ _ _ hh) rfl)))
     ·refine gq [0] ((A1 hx17).ok) rfl (n' ?_)
      refine st2 1 4 rfl (by kernel_rfl) rfl rfl ?_ ?_
      ·refine e' rfl ?_
       refine st1 4 rfl (by kernel_rfl) rfl ?_
       refine C0.be hC rfl (E0.rows_map [x17.1]).symm (n' ?_)
       refine st1 5 rfl (by kernel_rfl) rfl ?_
       refine C0.ap hC rfl (rs:=E0.rows (o2_Params++[x17.1])) (E0.app o2_Params [x17.1]) (E0.sz o2_Params) (E0.sz [x17.1]) (V1 (E0.len o2_Params) (E0.len [x17.1]) c31) (n' ?_)
       refine st1 6 rfl (by kernel_rfl) rfl ?_
       refine e' rfl ?_
       refine st1 7 rfl (by kernel_rfl) rfl ?_
       exact C0.s hC rfl (n' (V0.nil (by kernel_rfl) (lq (ih0 _ _ _ hh) rfl)))
      ·refine C0.be hC rfl (E0.rows_map [x17.1]).symm (n' ?_)
       refine st1 1 rfl (by kernel_rfl) rfl ?_
       refine e' rfl ?_
       refine st1 5 rfl (by kernel_rfl) rfl ?_
       refine C0.ap hC rfl (rs:=E0.rows (o2_Params++[x17.1])) (E0.app o2_Params [x17.1]) (E0.sz o2_Params) (E0.sz [x17.1]) (V1 (E0.len o2_Params) (E0.len [x17.1]) c31) (n' ?_)
       refine st1 6 rfl (by kernel_rfl) rfl ?_
       refine e' rfl ?_
       refine st1 7 rfl (by kernel_rfl) rfl ?_
       exact C0.s hC rfl (n' (V0.nil (by kernel_rfl) (lq (ih0 _ _ _ hh) rfl)))
    ·refine gq [0] ((A1 hx17).ok) rfl (n' ?_)
     refine st2 0 4 rfl (by kernel_rfl) rfl rfl ?_ ?_
     ·refine e' rfl ?_
      refine st2 1 4 rfl (by kernel_rfl) rfl rfl ?_ ?_
      ·refine e' rfl ?_
       refine st1 4 rfl (by kernel_rfl) rfl ?_
       refine C0.be hC rfl (E0.rows_map [x17.1]).symm (n' ?_)
       refine st1 5 rfl (by kernel_rfl) rfl ?_
       refine C0.ap hC rfl (rs:=E0.rows (o2_Params++[x17.1])) (E0.app o2_Params [x17.1]) (E0.sz o2_Params) (E0.sz [x17.1]) (V1 (E0.len o2_Params) (E0.len [x17.1]) c31) (n' ?_)
       refine st1 6 rfl (by kernel_rfl) rfl ?_
       refine e' rfl ?_
       refine st1 7 rfl (by kernel_rfl) rfl ?_
       exact C0.s hC rfl (n' (V0.nil (by kernel_rfl) (lq (ih0 _ _ _ hh) rfl)))
      ·refine C0.be hC rfl (E0.rows_map [x17.1]).symm (n' ?_)
       refine st1 1 rfl (by kernel_rfl) rfl ?_
       refine e' rfl ?_
       refine st1 5 rfl (by kernel_rfl) rfl ?_
       refine C0.ap hC rfl (rs:=E0.rows (o2_Params++[x17.1])) (E0.app o2_Params [x17.1]) (E0.sz o2_Params) (E0.sz [x17.1]) (V1 (E0.len o2_Params) (E0.len [x17.1]) c31) (n' ?_)
       refine st1 6 rfl (by kernel_rfl) rfl ?_
       refine e' rfl ?_
       refine st1 7 rfl (by kernel_rfl) rfl ?_
       exact C0.s hC rfl (n' (V0.nil (by kernel_rfl) (lq (ih0 _ _ _ hh) rfl)))
     ·refine C0.be hC rfl (E0.rows_map [x17.1]).symm (n' ?_)
      refine st1 0 rfl (by kernel_rfl) rfl ?_
      refine e' rfl ?_
      refine st1 1 rfl (by kernel_rfl) rfl ?_
      refine e' rfl ?_
      refine st1 5 rfl (by kernel_rfl) rfl ?_
      refine C0.ap hC rfl (rs:=E0.rows (o2_Params++[x17.1])) (E0.app o2_Params [x17.1]) (E0.sz o2_Params) (E0.sz [x17.1]) (V1 (E0.len o2_Params) (E0.len [x17.1]) c31) (n' ?_)
      refine st1 6 rfl (by kernel_rfl) rfl ?_
      refine e' rfl ?_
      refine st1 7 rfl (by kernel_rfl) rfl ?_
      exact C0.s hC rfl (n' (V0.nil (by kernel_rfl) (lq (ih0 _ _ _ hh) rfl)))
  exact ex' (eq' (Zf hh) rfl)
theorem Zm {o0 x1 o2_Params res}(hh:B4 o0 x1 o2_Params=some res):Sg o0 x1 o2_Params res:=(Em x1) _ _ _ hh
def M6 (x4:E0×A0)(x1:Str×A0):Option (Pn (E0×A0)):=
 B4 x4.2 x1 [x4.1]
theorem U2 {x4 x1 res}(hh:M6 x4 x1=some res):JMp C 58 1 Tryz.f103 [1,1,1,0,1,2,1] [(0,.ref 0 0),(2,.ref 1 0),(3,.ref 2 0)] [.row (A0.cells x4.2) 112,.row [.d (.int .i64 0),.d (.str []),.d (.int .i64 0),.d (.int .i64 0),.d (.int .i64 0),.d (.int .i64 0),.d (.str []),.full (estr.rows []),.full (L0.rows []),.d (.int .i64 0),.d (.int .i64 0),.d (.int .i64 0),.d (.str []),.full (B0.rows []),.full (E0.rows []),.full (E0.rows []),.full (J0.rows [])] 82,.row [.d (.int .i64 6),.d (.str x1.1),.d (.int .i64 0),.d (.int .i64 0),.d (.int .i64 0),.d (.int .i64 0),.d (.str []),.full (estr.rows []),.full (L0.rows []),.d (.int .i64 0),.d (.int .i64 0),.d (.int .i64 0),.d (.str []),.full (B0.rows []),.osl 3 (E0.rows [x4.1]),.osl 4 (E0.rows []),.full (J0.rows [])] 82,.tok 82 17,.tok 82 17] (N4 res (fun rr=>[.row (A0.cells rr.2) 112]) (fun rr=>.agg (E0.cells rr.1))) (F4 res M3 [.dead]):=by
 unfold M6 at hh
 exact bk' (fq (Zm hh) rfl)
def G8 (parserParser:A0):Option (Pn (E0×A0)):=
 F3 parserParser>>=fun x1=>match x1 with
 | .pn nn=>
 some (.pn nn)
 | .ok x1=>
 U0 [40] x1.2>>=fun x2=>match x2 with
 | .pn nn=>
 some (.pn nn)
 | .ok x2=>
 S5 x2>>=fun x3=>
 if x3=true then
  Y3 4 x2>>=fun x4=>match x4 with
  | .pn nn=>
  some (.pn nn)
  | .ok x4=>
  if (decide ((0+1) * 257≤140737488355328))=true then
   M6 x4 x1
  else none
 else
  E5 x2 x1 []
theorem Fi {parserParser res}(hh:G8 parserParser=some res):I2 C 103 [.ref 0 0] [.row (A0.cells parserParser) 112] (N4 res (fun rr=>[.row (A0.cells rr.2) 112]) (fun rr=>.agg (E0.cells rr.1))) (F4 res M3 [.dead]):=by
 unfold G8 at hh
 refine I2.intro hC Tryz.func103 rfl rfl rfl (s' rfl rfl (C0.nf hC rfl (n' (p' 1 rfl ?_))))
 rcases bp' hh with ⟨nn,hx1,⟨⟩⟩ | ⟨x1,hx1,hh⟩
 ·exact gr [0] (C1 hx1) rfl (peW ⟨trivial,trivial⟩ rfl)
 refine gq [0] ((C1 hx1).ok) rfl (C0.bz hC rfl (C0.nf hC rfl (C0.s hC rfl (C0.tokC 2 14 82 17 rfl rfl rfl rfl rfl (C0.tokC 2 15 82 17 rfl rfl rfl rfl rfl (n' (p' 1 rfl ?_)))))))
 rcases bp' hh with ⟨nn,hx2,⟨⟩⟩ | ⟨x2,hx2,hh⟩
 ·exact gr [0] (F0 hx2) rfl (peW ⟨trivial,trivial⟩ rfl)
 obtain ⟨x3,hx3,hh⟩:=bs' hh
 refine gq [0] ((F0 hx2).ok) rfl (n' (S' (p' 1 rfl (gq [0] (Ue hx3) rfl (n' (ci' rfl hh (fun hh=>?_) (fun hh=>?_)))))))
 ·refine S' ?_
  rcases bp' hh with ⟨nn,hx4,⟨⟩⟩ | ⟨x4,hx4,hh⟩
  ·refine AEx.drawE hC ?_
   refine st2 0 2 rfl (by kernel_rfl) rfl rfl ?_ ?_
   ·refine e' rfl ?_
    refine st2 1 2 rfl (by kernel_rfl) rfl rfl ?_ ?_
    ·refine e' rfl ?_
     refine st1 2 rfl (by kernel_rfl) rfl ?_
     refine e' rfl ?_
     refine st1 3 rfl (by kernel_rfl) rfl ?_
     exact gr [0] (A1 hx4) rfl (peW ⟨trivial,trivial⟩ rfl)
    ·refine e' rfl ?_
     refine st2 1 3 rfl (by kernel_rfl) rfl rfl ?_ ?_
     ·refine e' rfl ?_
      refine st1 3 rfl (by kernel_rfl) rfl ?_
      exact gr [0] (A1 hx4) rfl (peW ⟨trivial,trivial⟩ rfl)
     ·exact gr [0] (A1 hx4) rfl (peW ⟨trivial,trivial⟩ rfl)
   ·refine e' rfl ?_
    refine st2 0 3 rfl (by kernel_rfl) rfl rfl ?_ ?_
    ·refine e' rfl ?_
     refine st2 1 3 rfl (by kernel_rfl) rfl rfl ?_ ?_
     ·refine e' rfl ?_
      refine st1 3 rfl (by kernel_rfl) rfl ?_
      exact gr [0] (A1 hx4) rfl (peW ⟨trivial,trivial⟩ rfl)
     ·exact gr [0] (A1 hx4) rfl (peW ⟨trivial,trivial⟩ rfl)
    ·exact gr [0] (A1 hx4) rfl (peW ⟨trivial,trivial⟩ rfl)
  obtain ⟨c30,hh⟩:=R4 hh
  refine AEx.drawE hC ?_
  refine st2 0 2 rfl (by kernel_rfl) rfl rfl ?_ ?_
  ·refine e' rfl ?_
   refine st2 1 2 rfl (by kernel_rfl) rfl rfl ?_ ?_
   ·refine e' rfl ?_
    refine st1 2 rfl (by kernel_rfl) rfl ?_
    refine e' rfl ?_
    refine st1 3 rfl (by kernel_rfl) rfl ?_
    refine gq [0] ((A1 hx4).ok) rfl (n' ?_)
    refine st1 4 rfl (by kernel_rfl) rfl ?_
    refine C0.be hC rfl (E0.rows_map [x4.1]).symm (n' ?_)
    refine st1 5 rfl (by kernel_rfl) rfl ?_
    refine C0.ap hC rfl (rs:=E0.rows [x4.1]) rfl (E0.sz []) (E0.sz [x4.1]) (V1 (E0.len []) (E0.len [x4.1]) c30) (n' ?_)
    refine st1 6 rfl (by kernel_rfl) rfl ?_
    refine e' rfl ?_
    refine st1 7 rfl (by kernel_rfl) rfl ?_
    exact C0.s hC rfl (n' (V0.nil (by kernel_rfl) (eq' (U2 hh) rfl)))
   ·refine e' rfl ?_
    refine st2 1 3 rfl (by kernel_rfl) rfl rfl ?_ ?_
    ·refine e' rfl ?_
     refine st1 3 rfl (by kernel_rfl) rfl ?_
     refine gq [0] ((A1 hx4).ok) rfl (n' ?_)
     refine st1 4 rfl (by kernel_rfl) rfl ?_
     refine C0.be hC rfl (E0.rows_map [x4.1]).symm (n' ?_)
     refine st1 5 rfl (by kernel_rfl) rfl ?_
     refine C0.ap hC rfl (rs:=E0.rows [x4.1]) rfl (E0.sz []) (E0.sz [x4.1]) (V1 (E0.len []) (E0.len [x4.1]) c30) (n' ?_)
     refine st1 6 rfl (by kernel_rfl) rfl ?_
     refine e' rfl ?_
     refine st1 7 rfl (by kernel_rfl) rfl ?_
     exact C0.s hC rfl (n' (V0.nil (by kernel_rfl) (eq' (U2 hh) rfl)))
    ·refine gq [0] ((A1 hx4).ok) rfl (n' ?_)
     refine st2 1 4 rfl (by kernel_rfl) rfl rfl ?_ ?_
     ·refine e' rfl ?_
      refine st1 4 rfl (by kernel_rfl) rfl ?_
      refine C0.be hC rfl (E0.rows_map [x4.1]).symm (n' ?_)
      refine st1 5 rfl (by kernel_rfl) rfl ?_
      refine C0.ap hC rfl (rs:=E0.rows [x4.1]) rfl (E0.sz []) (E0.sz [x4.1]) (V1 (E0.len []) (E0.len [x4.1]) c30) (n' ?_)
      refine st1 6 rfl (by kernel_rfl) rfl ?_
      refine e' rfl ?_
      refine st1 7 rfl (by kernel_rfl) rfl ?_
      exact C0.s hC rfl (n' (V0.nil (by kernel_rfl) (eq' (U2 hh) rfl)))
     ·refine C0.be hC rfl (E0.rows_map [x4.1]).symm (n' ?_)
      refine st1 1 rfl (by kernel_rfl) rfl ?_
      refine e' rfl ?_
      refine st1 5 rfl (by kernel_rfl) rfl ?_
      refine C0.ap hC rfl (rs:=E0.rows [x4.1]) rfl (E0.sz []) (E0.sz [x4.1]) (V1 (E0.len []) (E0.len [x4.1]) c30) (n' ?_)
      refine st1 6 rfl (by kernel_rfl) rfl ?_
      refine e' rfl ?_
      refine st1 7 rfl (by kernel_rfl) rfl ?_
      exact C0.s hC rfl (n' (V0.nil (by kernel_rfl) (eq' (U2 hh) rfl)))
  ·refine e' rfl ?_
   refine st2 0 3 rfl (by kernel_rfl) rfl rfl ?_ ?_
   ·refine e' rfl ?_
    refine st2 1 3 rfl (by kernel_rfl) rfl rfl ?_ ?_
    ·refine e' rfl ?_
     refine st1 3 rfl (by kernel_rfl) rfl ?_
     refine gq [0] ((A1 hx4).ok) rfl (n' ?_)
     refine st1 4 rfl (by kernel_rfl) rfl ?_
     refine C0.be hC rfl (E0.rows_map [x4.1]).symm (n' ?_)
     refine st1 5 rfl (by kernel_rfl) rfl ?_
     refine C0.ap hC rfl (rs:=E0.rows [x4.1]) rfl (E0.sz []) (E0.sz [x4.1]) (V1 (E0.len []) (E0.len [x4.1]) c30) (n' ?_)
     refine st1 6 rfl (by kernel_rfl) rfl ?_
     refine e' rfl ?_
     refine st1 7 rfl (by kernel_rfl) rfl ?_
     exact C0.s hC rfl (n' (V0.nil (by kernel_rfl) (eq' (U2 hh) rfl)))
    ·refine gq [0] ((A1 hx4).ok) rfl (n' ?_)
     refine st2 1 4 rfl (by kernel_rfl) rfl rfl ?_ ?_
     ·refine e' rfl ?_
      refine st1 4 rfl (by kernel_rfl) rfl ?_
      refine C0.be hC rfl (E0.rows_map [x4.1]).symm (n' ?_)
      refine st1 5 rfl (by kernel_rfl) rfl ?_
      refine C0.ap hC rfl (rs:=E0.rows [x4.1]) rfl (E0.sz []) (E0.sz [x4.1]) (V1 (E0.len []) (E0.len [x4.1]) c30) (n' ?_)
      refine st1 6 rfl (by kernel_rfl) rfl ?_
      refine e' rfl ?_
      refine st1 7 rfl (by kernel_rfl) rfl ?_
      exact C0.s hC rfl (n' (V0.nil (by kernel_rfl) (eq' (U2 hh) rfl)))
     ·refine C0.be hC rfl (E0.rows_map [x4.1]).symm (n' ?_)
      refine st1 1 rfl (by kernel_rfl) rfl ?_
      refine e' rfl ?_
      refine st1 5 rfl (by kernel_rfl) rfl ?_
      refine C0.ap hC rfl (rs:=E0.rows [x4.1]) rfl (E0.sz []) (E0.sz [x4.1]) (V1 (E0.len []) (E0.len [x4.1]) c30) (n' ?_)
      refine st1 6 rfl (by kernel_rfl) rfl ?_
      refine e' rfl ?_
      refine st1 7 rfl (by kernel_rfl) rfl ?_
      exact C0.s hC rfl (n' (V0.nil (by kernel_rfl) (eq' (U2 hh) rfl)))
   ·refine gq [0] ((A1 hx4).ok) rfl (n' ?_)
    refine st2 0 4 rfl (by kernel_rfl) rfl rfl ?_ ?_
    ·refine e' rfl ?_
     refine st2 1 4 rfl (by kernel_rfl) rfl rfl ?_ ?_
     ·refine e' rfl ?_
      refine st1 4 rfl (by kernel_rfl) rfl ?_
      refine C0.be hC rfl (E0.rows_map [x4.1]).symm (n' ?_)
      refine st1 5 rfl (by kernel_rfl) rfl ?_
      refine C0.ap hC rfl (rs:=E0.rows [x4.1]) rfl (E0.sz []) (E0.sz [x4.1]) (V1 (E0.len []) (E0.len [x4.1]) c30) (n' ?_)
      refine st1 6 rfl (by kernel_rfl) rfl ?_
      refine e' rfl ?_
      refine st1 7 rfl (by kernel_rfl) rfl ?_
      exact C0.s hC rfl (n' (V0.nil (by kernel_rfl) (eq' (U2 hh) rfl)))
     ·refine C0.be hC rfl (E0.rows_map [x4.1]).symm (n' ?_)
      refine st1 1 rfl (by kernel_rfl) rfl ?_
      refine e' rfl ?_
      refine st1 5 rfl (by kernel_rfl) rfl ?_
      refine C0.ap hC rfl (rs:=E0.rows [x4.1]) rfl (E0.sz []) (E0.sz [x4.1]) (V1 (E0.len []) (E0.len [x4.1]) c30) (n' ?_)
      refine st1 6 rfl (by kernel_rfl) rfl ?_
      refine e' rfl ?_
      refine st1 7 rfl (by kernel_rfl) rfl ?_
      exact C0.s hC rfl (n' (V0.nil (by kernel_rfl) (eq' (U2 hh) rfl)))
    ·refine C0.be hC rfl (E0.rows_map [x4.1]).symm (n' ?_)
     refine st1 0 rfl (by kernel_rfl) rfl ?_
     refine e' rfl ?_
     refine st1 1 rfl (by kernel_rfl) rfl ?_
     refine e' rfl ?_
     refine st1 5 rfl (by kernel_rfl) rfl ?_
     refine C0.ap hC rfl (rs:=E0.rows [x4.1]) rfl (E0.sz []) (E0.sz [x4.1]) (V1 (E0.len []) (E0.len [x4.1]) c30) (n' ?_)
     refine st1 6 rfl (by kernel_rfl) rfl ?_
     refine e' rfl ?_
     refine st1 7 rfl (by kernel_rfl) rfl ?_
     exact C0.s hC rfl (n' (V0.nil (by kernel_rfl) (eq' (U2 hh) rfl)))
 exact sk' (eq' (Zf hh) rfl)
def N6 (parserParser:A0):Option (Pn (E0×Bool×A0)):=
 S0 [116,121,112,101] parserParser>>=fun x1=>
 if x1.1=true then
  F3 x1.2>>=fun x2=>match x2 with
  | .pn nn=>
  some (.pn nn)
  | .ok x2=>
  U0 [61] x2.2>>=fun x3=>match x3 with
  | .pn nn=>
  some (.pn nn)
  | .ok x3=>
  T4 x3>>=fun x4=>match x4 with
  | .pn nn=>
  some (.pn nn)
  | .ok x4=>
  U0 [59] x4.2>>=fun x5=>match x5 with
  | .pn nn=>
  some (.pn nn)
  | .ok x5=>
  some (.ok ((E0.mk 0 x2.1 x4.1 0 (B0.mk 0 0 [] []) [] [] []),true,x5))
 else
  S0 [115,101,99,114,101,116] x1.2>>=fun x6=>
  if x6.1=true then
   Y3 1 x6.2>>=fun x7=>match x7 with
   | .pn nn=>
   some (.pn nn)
   | .ok x7=>
   U0 [59] x7.2>>=fun x8=>match x8 with
   | .pn nn=>
   some (.pn nn)
   | .ok x8=>
   some (.ok (x7.1,true,x8))
  else
   S0 [112,117,98,108,105,99] x6.2>>=fun x9=>
   if x9.1=true then
    Y3 2 x9.2>>=fun x10=>match x10 with
    | .pn nn=>
    some (.pn nn)
    | .ok x10=>
    U0 [59] x10.2>>=fun x11=>match x11 with
    | .pn nn=>
    some (.pn nn)
    | .ok x11=>
    some (.ok (x10.1,true,x11))
   else
    S0 [114,97,110,100,111,109] x9.2>>=fun x12=>
    if x12.1=true then
     Y3 3 x12.2>>=fun x13=>match x13 with
     | .pn nn=>
     some (.pn nn)
     | .ok x13=>
     U0 [59] x13.2>>=fun x14=>match x14 with
     | .pn nn=>
     some (.pn nn)
     | .ok x14=>
     some (.ok (x13.1,true,x14))
    else
     S0 [118,97,114] x12.2>>=fun x15=>
     if x15.1=true then
      B6 x15.2>>=fun x16=>match x16 with
      | .pn nn=>
      some (.pn nn)
      | .ok x16=>
      some (.ok (x16.1,true,x16.2))
     else
      S0 [104,97,116,99,104] x15.2>>=fun x17=>
      if x17.1=true then
       Y3 5 x17.2>>=fun x18=>match x18 with
       | .pn nn=>
       some (.pn nn)
       | .ok x18=>
       U0 [61] x18.2>>=fun x19=>match x19 with
       | .pn nn=>
       some (.pn nn)
       | .ok x19=>
       T1 x19>>=fun x20=>match x20 with
       | .pn nn=>
       some (.pn nn)
       | .ok x20=>
       U0 [59] x20.2>>=fun x21=>match x21 with
       | .pn nn=>
       some (.pn nn)
       | .ok x21=>
       some (.ok ((E0.mk x18.1.Kind x18.1.Name x18.1.TypeV x18.1.Init x20.1 x18.1.Params x18.1.Vars x18.1.Body),true,x21))
      else
       S0 [102,117,110,99] x17.2>>=fun x22=>
       if x22.1=true then
        G8 x22.2>>=fun x23=>match x23 with
        | .pn nn=>
        some (.pn nn)
        | .ok x23=>
        some (.ok (x23.1,true,x23.2))
       else
        some (.ok ((E0.mk 0 [] (L0.mk 0 0 0 0 [] [] []) 0 (B0.mk 0 0 [] []) [] [] []),false,x22.2))
theorem Ag {parserParser res}(hh:N6 parserParser=some res):I2 C 66 [.ref 0 0] [.row (A0.cells parserParser) 112] (N4 res (fun rr=>[.row (A0.cells rr.2.2) 112]) (fun rr=>.tup [.agg (E0.cells rr.1),.d (.bool rr.2.1)])) (F4 res M3 [.dead]):=by
 unfold N6 at hh
 obtain ⟨x1,hx1,hh⟩:=bs' hh
 refine I2.intro hC Tryz.func66 rfl rfl rfl (s' rfl rfl (C0.nf hC rfl (e' rfl (s' rfl rfl (C0.nf hC rfl (n' (S' (bk' (p' 1 rfl (gq [0] (O0 hx1) rfl (e' rfl (ci' rfl hh (fun hh=>?_) (fun hh=>?_)))))))))))))
 ·refine p' 1 rfl ?_
  rcases bp' hh with ⟨nn,hx2,⟨⟩⟩ | ⟨x2,hx2,hh⟩
  ·exact gr [0] (C1 hx2) rfl (peW ⟨trivial,trivial⟩ rfl)
  refine gq [0] ((C1 hx2).ok) rfl (e' rfl (p' 1 rfl ?_))
  rcases bp' hh with ⟨nn,hx3,⟨⟩⟩ | ⟨x3,hx3,hh⟩
  ·exact gr [0] (F0 hx3) rfl (peW ⟨trivial,trivial⟩ rfl)
  refine gq [0] ((F0 hx3).ok) rfl (n' (p' 2 rfl ?_))
  rcases bp' hh with ⟨nn,hx4,⟨⟩⟩ | ⟨x4,hx4,hh⟩
  ·exact gr [0] (P7 hx4) rfl (peW ⟨trivial,trivial⟩ rfl)
  refine gq [0] ((P7 hx4).ok) rfl (q' rfl (C0.s hC rfl (n' (P' 1 rfl ?_))))
  rcases bp' hh with ⟨nn,hx5,⟨⟩⟩ | ⟨x5,hx5,hh⟩
  ·exact gr [0] (F0 hx5) rfl (peW ⟨trivial,trivial⟩ rfl)
  cases hh
  exact gq [0] ((F0 hx5).ok) rfl (n' (p' 1 rfl (C0.s hC rfl (e' rfl (re' (rq rfl))))))
 obtain ⟨x6,hx6,hh⟩:=bs' hh
 refine p' 1 rfl (gq [0] (O0 hx6) rfl (e' rfl (ci' rfl hh (fun hh=>?_) (fun hh=>?_))))
 ·refine p' 1 rfl ?_
  rcases bp' hh with ⟨nn,hx7,⟨⟩⟩ | ⟨x7,hx7,hh⟩
  ·exact gr [0] (A1 hx7) rfl (peW ⟨trivial,trivial⟩ rfl)
  refine gq [0] ((A1 hx7).ok) rfl (C0.s hC rfl (n' (P' 1 rfl ?_)))
  rcases bp' hh with ⟨nn,hx8,⟨⟩⟩ | ⟨x8,hx8,hh⟩
  ·exact gr [0] (F0 hx8) rfl (peW ⟨trivial,trivial⟩ rfl)
  cases hh
  exact gq [0] ((F0 hx8).ok) rfl (n' (p' 1 rfl (C0.s hC rfl (e' rfl (re' (rq rfl))))))
 obtain ⟨x9,hx9,hh⟩:=bs' hh
 refine p' 1 rfl (gq [0] (O0 hx9) rfl (e' rfl (ci' rfl hh (fun hh=>?_) (fun hh=>?_))))
 ·refine p' 1 rfl ?_
  rcases bp' hh with ⟨nn,hx10,⟨⟩⟩ | ⟨x10,hx10,hh⟩
  ·exact gr [0] (A1 hx10) rfl (peW ⟨trivial,trivial⟩ rfl)
  refine gq [0] ((A1 hx10).ok) rfl (C0.s hC rfl (n' (P' 1 rfl ?_)))
  rcases bp' hh with ⟨nn,hx11,⟨⟩⟩ | ⟨x11,hx11,hh⟩
  ·exact gr [0] (F0 hx11) rfl (peW ⟨trivial,trivial⟩ rfl)
  cases hh
  exact gq [0] ((F0 hx11).ok) rfl (n' (p' 1 rfl (C0.s hC rfl (e' rfl (re' (rq rfl))))))
 obtain ⟨x12,hx12,hh⟩:=bs' hh
 refine p' 1 rfl (gq [0] (O0 hx12) rfl (e' rfl (ci' rfl hh (fun hh=>?_) (fun hh=>?_))))
 ·refine p' 1 rfl ?_
  rcases bp' hh with ⟨nn,hx13,⟨⟩⟩ | ⟨x13,hx13,hh⟩
  ·exact gr [0] (A1 hx13) rfl (peW ⟨trivial,trivial⟩ rfl)
  refine gq [0] ((A1 hx13).ok) rfl (C0.s hC rfl (n' (P' 1 rfl ?_)))
  rcases bp' hh with ⟨nn,hx14,⟨⟩⟩ | ⟨x14,hx14,hh⟩
  ·exact gr [0] (F0 hx14) rfl (peW ⟨trivial,trivial⟩ rfl)
  cases hh
  exact gq [0] ((F0 hx14).ok) rfl (n' (p' 1 rfl (C0.s hC rfl (e' rfl (re' (rq rfl))))))
 obtain ⟨x15,hx15,hh⟩:=bs' hh
 refine p' 1 rfl (gq [0] (O0 hx15) rfl (e' rfl (ci' rfl hh (fun hh=>?_) (fun hh=>?_))))
 ·refine P' 1 rfl ?_
  rcases bp' hh with ⟨nn,hx16,⟨⟩⟩ | ⟨x16,hx16,hh⟩
  ·exact gr [0] (E2 hx16) rfl (peW ⟨trivial,trivial⟩ rfl)
  cases hh
  exact gq [0] ((E2 hx16).ok) rfl (C0.s hC rfl (n' (p' 1 rfl (C0.s hC rfl (e' rfl (re' (rq rfl)))))))
 obtain ⟨x17,hx17,hh⟩:=bs' hh
 refine p' 1 rfl (gq [0] (O0 hx17) rfl (e' rfl (ci' rfl hh (fun hh=>?_) (fun hh=>?_))))
 ·refine p' 1 rfl ?_
  rcases bp' hh with ⟨nn,hx18,⟨⟩⟩ | ⟨x18,hx18,hh⟩
  ·exact gr [0] (A1 hx18) rfl (peW ⟨trivial,trivial⟩ rfl)
  refine gq [0] ((A1 hx18).ok) rfl (C0.s hC rfl (n' (p' 1 rfl ?_)))
  rcases bp' hh with ⟨nn,hx19,⟨⟩⟩ | ⟨x19,hx19,hh⟩
  ·exact gr [0] (F0 hx19) rfl (peW ⟨trivial,trivial⟩ rfl)
  refine gq [0] ((F0 hx19).ok) rfl (n' (p' 1 rfl ?_))
  rcases bp' hh with ⟨nn,hx20,⟨⟩⟩ | ⟨x20,hx20,hh⟩
  ·exact gr [0] (T0 hx20) rfl (peW ⟨trivial,trivial⟩ rfl)
  refine gq [0] ((T0 hx20).ok) rfl (q' rfl (C0.s hC rfl (n' (P' 1 rfl ?_))))
  rcases bp' hh with ⟨nn,hx21,⟨⟩⟩ | ⟨x21,hx21,hh⟩
  ·exact gr [0] (F0 hx21) rfl (peW ⟨trivial,trivial⟩ rfl)
  cases hh
  exact gq [0] ((F0 hx21).ok) rfl (n' (p' 1 rfl (C0.s hC rfl (e' rfl (re' (rq rfl))))))
 obtain ⟨x22,hx22,hh⟩:=bs' hh
 refine p' 1 rfl (gq [0] (O0 hx22) rfl (e' rfl (ci' rfl hh (fun hh=>?_) (fun hh=>?_))))
 ·refine P' 1 rfl ?_
  rcases bp' hh with ⟨nn,hx23,⟨⟩⟩ | ⟨x23,hx23,hh⟩
  ·exact gr [0] (Fi hx23) rfl (peW ⟨trivial,trivial⟩ rfl)
  cases hh
  exact gq [0] ((Fi hx23).ok) rfl (C0.s hC rfl (n' (p' 1 rfl (C0.s hC rfl (e' rfl (re' (rq rfl)))))))
 refine p' 1 rfl (C0.s hC rfl (e' rfl (re' ?_)))
 have hq:=oi' hh
 subst hq
 exact ⟨_,.tup [.agg [.d (.int .i64 0),.d (.str []),.d (.int .i64 0),.d (.int .i64 0),.d (.int .i64 0),.d (.int .i64 0),.d (.str []),.d (.sl (estr.rows [])),.d (.sl (L0.rows [])),.d (.int .i64 0),.d (.int .i64 0),.d (.int .i64 0),.d (.str []),.d (.sl (B0.rows [])),.d (.sl (E0.rows [])),.d (.sl (E0.rows [])),.d (.sl (J0.rows []))],.d (.bool false)],[.row (A0.cells x22.2) 112],rfl,(.tupL ⟨(.aggL ⟨.rfl,.rfl,.rfl,.rfl,.rfl,.rfl,.rfl,.full,.full,.rfl,.rfl,.rfl,.rfl,.full,.full,.full,.full,trivial⟩),.rfl,trivial⟩),⟨⟨rfl,.refl _,rfl⟩,trivial⟩,rfl,rfl,rpq rfl rfl⟩
def G4 (o0:A0)(o2_Decls:List E0):Option (Pn (E1×A0)):=
 N6 o0>>=fun x1=>match x1 with
 | .pn nn=>
 some (.pn nn)
 | .ok x1=>
 if (!x1.2.1)=true then
  U0 [98,101,103,105,110] x1.2.2>>=fun x2=>match x2 with
  | .pn nn=>
  some (.pn nn)
  | .ok x2=>
  W3 x2>>=fun x3=>match x3 with
  | .pn nn=>
  some (.pn nn)
  | .ok x3=>
  U0 [101,110,100] x3.2>>=fun x4=>match x4 with
  | .pn nn=>
  some (.pn nn)
  | .ok x4=>
  some (.ok ((E1.mk o2_Decls x3.1),x4))
 else
  if (decide ((o2_Decls.length+1) * 257≤140737488355328))=true then
   G4 x1.2.2 (o2_Decls++[x1.1])
  else none
 partial_fixpoint
abbrev Xh (o0:A0)(o2_Decls:List E0)(res:Pn (E1×A0)):Prop:=LMp C 27 1 Tryz.f35 [1,1,0,4] [(0,.ref 0 0),(2,.ref 1 0),(3,.ref 2 0)] [.row (A0.cells o0) 112,.row [.full (E0.rows []),.full (J0.rows [])] 26,.row [.osl 3 (E0.rows o2_Decls),.full (J0.rows [])] 26,.tok 82 17] (N4 res (fun rr=>[.row (A0.cells rr.2) 112]) (fun rr=>.agg (E1.cells rr.1))) (F4 res M3 [.dead])
theorem An:(∀ o0 o2_Decls res,G4 o0 o2_Decls=some res→Xh o0 o2_Decls res):=by
 refine G4.partial_correctness _ ?_
 ·intro g0 ih0 o0 o2_Decls res hh
  refine F1.unroll (bk' (p' 1 rfl ?_))
  rcases bp' hh with ⟨nn,hx1,⟨⟩⟩ | ⟨x1,hx1,hh⟩
  ·exact gr [0] (Ag hx1) rfl (peW ⟨trivial,trivial⟩ rfl)
  refine gq [0] ((Ag hx1).ok) rfl (o' 3 rfl (C0.nf hC rfl (C0.s hC rfl (e' rfl (S' (t' rfl (ci' rfl hh (fun hh=>?_) (fun hh=>?_))))))))
  ·refine ex' (p' 1 rfl ?_)
   rcases bp' hh with ⟨nn,hx2,⟨⟩⟩ | ⟨x2,hx2,hh⟩
   ·exact gr [0] (F0 hx2) rfl (peW ⟨trivial,trivial⟩ rfl)
   refine gq [0] ((F0 hx2).ok) rfl (n' (p' 1 rfl ?_))
   rcases bp' hh with ⟨nn,hx3,⟨⟩⟩ | ⟨x3,hx3,hh⟩
   ·exact gr [0] (U7 hx3) rfl (peW ⟨trivial,trivial⟩ rfl)
   refine gq [0] ((U7 hx3).ok) rfl (q' rfl (C0.s hC rfl (n' (p' 1 rfl ?_))))
   rcases bp' hh with ⟨nn,hx4,⟨⟩⟩ | ⟨x4,hx4,hh⟩
   ·exact gr [0] (F0 hx4) rfl (peW ⟨trivial,trivial⟩ rfl)
   refine gq [0] ((F0 hx4).ok) rfl (n' (p' 1 rfl (C0.s hC rfl (n' (re' ?_)))))
   have hq:=oi' hh
   subst hq
   exact ⟨_,.agg [.d (.sl (E0.rows o2_Decls)),.d (.sl (J0.rows x3.1))],[.row (A0.cells x4) 112],rfl,(.aggL ⟨.osl,.rfl,trivial⟩),⟨⟨rfl,.refl _,rfl⟩,trivial⟩,rfl,rfl,rpq rfl rfl⟩
  obtain ⟨c5,hh⟩:=R4 hh
  exact sk' (P' 3 rfl (C0.be hC rfl (E0.rows_map [x1.1]).symm (C0.ap hC rfl (rs:=E0.rows (o2_Decls++[x1.1])) (E0.app o2_Decls [x1.1]) (E0.sz o2_Decls) (E0.sz [x1.1]) (V1 (E0.len o2_Decls) (E0.len [x1.1]) c5) (q' rfl (C0.s hC rfl (n' (lq (ih0 _ _ _ hh) rfl)))))))
theorem To {o0 o2_Decls res}(hh:G4 o0 o2_Decls=some res):Xh o0 o2_Decls res:=(An) _ _ _ hh
def B9 (parserParser:A0):Option (Pn (E1×A0)):=
 G4 parserParser []
theorem Si {parserParser res}(hh:B9 parserParser=some res):I2 C 35 [.ref 0 0] [.row (A0.cells parserParser) 112] (N4 res (fun rr=>[.row (A0.cells rr.2) 112]) (fun rr=>.agg (E1.cells rr.1))) (F4 res M3 [.dead]):=by
 unfold B9 at hh
 exact I2.intro hC Tryz.func35 rfl rfl rfl (s' rfl rfl (C0.nf hC rfl (n' (s' rfl rfl (C0.nf hC rfl (C0.tokC 2 0 82 17 rfl rfl rfl rfl rfl (n' (S' (bk' (fq (To hh) rfl))))))))))
def Bg (parserParser:A0)(apiProgram:E1):Option (Pn (A0×E1)):=
 B9 parserParser>>=fun x1=>match x1 with
 | .pn nn=>
 some (.pn nn)
 | .ok x1=>
 some (.ok (x1.2,x1.1))
theorem Np {parserParser apiProgram res}(hh:Bg parserParser apiProgram=some res):I2 C 34 [.ref 0 0,.ref 1 0] [.row (A0.cells parserParser) 112,.row [.full (E0.rows apiProgram.Decls),.full (J0.rows apiProgram.Body)] 26] (N4 res (fun rr=>[.row (A0.cells rr.1) 112,.row (E1.cells rr.2) 26]) (fun rr=>.tup [])) (F4 res M3 [.dead,.row [.full (E0.rows apiProgram.Decls),.full (J0.rows apiProgram.Body)] 26]):=by
 unfold Bg at hh
 refine I2.intro hC Tryz.func34 rfl rfl rfl (P' 1 rfl ?_)
 rcases bp' hh with ⟨nn,hx1,⟨⟩⟩ | ⟨x1,hx1,hh⟩
 ·exact gr [0] (Si hx1) rfl (fun hi=>peW ⟨trivial,⟨rfl,.refl _,rfl⟩,trivial⟩ rfl hi)
 cases hh
 exact gq [0] ((Si hx1).ok) rfl (C0.s hC rfl (n' (rn' rfl rfl rfl)))
def Cg (text:Str)(apiProgram:E1):Option (Int×Int×E1):=
 Oo text>>=fun x1=>
 if (x1.2.2 != 0)=true then
  some (x1.2.1,x1.2.2,apiProgram)
 else
  Bg (A0.mk x1.1 0 ((text).length:Int)) apiProgram>>=fun x2=>match x2 with
  | .pn nn=>
  some (nn,6,apiProgram)
  | .ok x2=>
  if (decide (x2.1.next < ((x2.1.tokens).length:Int)))=true then
   D7 x2.1>>=fun x3=>match x3 with
   | .pn nn=>
   some (nn,6,x2.2)
   | .ok x3=>
   some (0,0,x2.2)
  else
   some (0,0,x2.2)
theorem Px {text apiProgram res}(hh:Cg text apiProgram=some res):W0 C 33 [.d (.str text),.clo 34 [.ref 0 0]] [.row [.full (E0.rows apiProgram.Decls),.full (J0.rows apiProgram.Body)] 26] (Ret [.row (E1.cells res.2.2) 26] (.tup [.d (.int .i64 res.1),.d (.int .i64 res.2.1)])):=by
 unfold Cg at hh
 obtain ⟨x1,hx1,hh⟩:=bs' hh
 refine W0.introD hC Tryz.func33 rfl rfl rfl (s' rfl rfl (C0.n hC rfl (C0.n hC rfl (n' (p' 1 rfl (cq (S13 hx1) rfl (o' 5 rfl (C0.s hC rfl (C0.s hC rfl (n' (S' (t' rfl (ci' rfl hh (fun hh=>?_) (fun hh=>?_))))))))))))))
 ·refine S' (AEx.drawL hC 3 [2] [] [[.row [.full (E0.rows apiProgram.Decls),.full (J0.rows apiProgram.Body)] 26,.row [.d (.int .i64 x1.2.1)] 3,.row [.d (.int .i64 x1.2.2)] 27],[.row [.full (E0.rows apiProgram.Decls),.full (J0.rows apiProgram.Body)] 26,.row [.d (.int .i64 x1.2.1)] 3,.row [.d (.int .i64 x1.2.2)] 27]] rfl rfl rfl rfl rfl rfl rfl rfl rfl rfl (AS.q hC rfl rfl rfl rfl ?_))
  refine AS.q hC rfl rfl rfl rfl (AS.s hC rfl rfl rfl rfl rfl rfl rfl (AS.nil (C0.s hC rfl (n' (re' ?_)))))
  have hq:=oi' hh
  subst hq
  exact ⟨_,_,[.row (E1.cells apiProgram) 26],rfl,.rfl,⟨⟨rfl,⟨.full,.full,trivial⟩,rfl⟩,trivial⟩,rfl,rfl,rfl,rfl⟩
 refine sk' (AEx.dfr hC U15 C17 rfl rfl rfl rfl rfl rfl fun _=>(p' 4 rfl (C0.n hC rfl (e' rfl (p' 2 rfl ?_)))))
 rcases bp' hh with ⟨nn,hx2,hh⟩ | ⟨x2,hx2,hh⟩
 ·have hq:=oi' hh; subst hq
  exact gr [3,0] (Np hx2) rfl (fun hi=>dfk hi rfl rfl rfl (⟨_,_,[.row (E1.cells apiProgram) 26],rfl,.rfl,⟨⟨rfl,⟨.full,.full,trivial⟩,rfl⟩,trivial⟩,rfl,rfl,rfl,rfl⟩))
 refine gq [3,0] ((Np hx2).ok) rfl (n' (S' (S' (AEx.draw hC 10 rfl rfl rfl (O' 8 rfl (AQ.qe hC rfl trivial (X0.lenA _) (E' rfl (n' (ci' rfl hh (fun hh=>?_) (fun hh=>?_))))))))))
 ·refine P' 1 rfl ?_
  rcases bp' hh with ⟨nn,hx3,hh⟩ | ⟨x3,hx3,hh⟩
  ·cases hh
   exact gr [3] (Q6 hx3) rfl (fun hi=>dfk hi rfl rfl rfl (rq rfl))
  cases hh
  exact gq [3] ((Q6 hx3).ok) rfl (n' (s' rfl rfl (C0.s hC rfl (C0.s hC rfl (n' (re' (rq rfl)))))))
 cases hh
 exact sk' (s' rfl rfl (C0.s hC rfl (C0.s hC rfl (n' (re' (rq rfl))))))
def Df (k:Int):Option (Bool×Bool):=
 some ((bif (decide (k≥0)) then (decide (k≤6)) else false),(bif (k == 5) then true else (k == 6)))
theorem Pw {k res}(hh:Df k=some res):W0 C 165 [.d (.int .i64 k)] [] (Ret [] (.tup [.d (.bool res.1),.d (.bool res.2)])):=by
 unfold Df at hh
 cases hh
 exact W0.intro hC Tryz.func165 rfl rfl rfl (t' rfl (sg' 14 rfl (G' 4 rfl (a1' rfl (pa' rfl (G' 4 rfl (a1' rfl (po' rfl (G' 2 rfl (an' (n' (re' (rq rfl)))))))))))))
def N1 (ok:Bool)(syntaxReport:D0):Option D0:=
 some (D0.mk syntaxReport.nodes syntaxReport.depth (bif syntaxReport.badForm then true else (!ok)) syntaxReport.badName syntaxReport.badNumber)
theorem L1 {ok syntaxReport res}(hh:N1 ok syntaxReport=some res):W0 C 166 [.ref 0 0,.d (.bool ok)] [.row (D0.cells syntaxReport) 154] (Ret [.row (D0.cells res) 154] (.tup [])):=by
 unfold N1 at hh
 cases hh
 exact W0.intro hC Tryz.func166 rfl rfl rfl (AEx.regionG 11 rfl (G' 7 rfl (a1' rfl (po' rfl (G' 2 rfl (an' (C0.s hC rfl (n' (rn' rfl rfl rfl)))))))))
def J3 (s1:List Str)(s2:List Str)(v13:Int):Option Bool:=
 if (decide (v13 < ((s1).length:Int)))=true then
  idx s1 v13>>=fun x1=>
  idx s2 v13>>=fun x2=>
  if (!(x1 == x2))=true then
   some false
  else
   J3 s1 s2 (IntKind.i64.wrap (v13+1))
 else
  some true
 partial_fixpoint
abbrev Te (s1:List Str)(s2:List Str)(v13:Int)(res:Bool):Prop:=LM C 26 0 Tryz.f15 [1,1,0,1,4] [(0,.d (.sl (estr.rows s1))),(1,.d (.sl (estr.rows s2))),(12,.d (.int .i64 ((s1).length:Int))),(13,.d (.int .i64 v13))] [] (Ret [] (.d (.bool res)))
theorem Vj (s1:List Str)(s2:List Str):(∀ v13 res,J3 s1 s2 v13=some res→Te s1 s2 v13 res):=by
 refine J3.partial_correctness s1 s2 _ ?_
 ·intro g0 ih0 v13 res hh
  refine F1.unroll (t' rfl (S' (ci' rfl hh (fun hh=>?_) (fun hh=>?_))))
  ·obtain ⟨x1,hx1,hh⟩:=bs' hh
   obtain ⟨x2,hx2,hh⟩:=bs' hh
   refine sk' (S' (bk' (t' rfl (S' (AEx.draw hC 9 rfl rfl rfl (O' 2 rfl (AQ.i hC rfl (T3 hx1) (estr.idx hx1) rfl (O' 3 rfl (AQ.i hC rfl (T3 hx2) (estr.idx hx2) rfl (E' rfl (n' (ci' rfl hh (fun hh=>?_) (fun hh=>?_)))))))))))))
   ·cases hh
    exact t' rfl (re' (rq rfl))
   exact sk' (T' rfl (lq (ih0 _ _ hh) rfl))
  cases hh
  exact ex' (t' rfl (re' (rq rfl)))
theorem Hk {s1 s2 v13 res}(hh:J3 s1 s2 v13=some res):Te s1 s2 v13 res:=(Vj s1 s2) _ _ hh
def X5 (s1:List Str)(s2:List Str):Option Bool:=
 if (((s1).length:Int) != ((s2).length:Int))=true then
  some false
 else
  J3 s1 s2 0
theorem Fm {s1 s2 res}(hh:X5 s1 s2=some res):W0 C 15 [.d (.sl (estr.rows s1)),.d (.sl (estr.rows s2))] [] (Ret [] (.d (.bool res))):=by
 unfold X5 at hh
 refine W0.intro hC Tryz.func15 rfl rfl rfl (t' rfl (S' (p' 1 rfl (qe' rfl trivial (estr.lenA _) (q' rfl (qe' rfl trivial (estr.lenA _) (e' rfl (ci' rfl hh (fun hh=>?_) (fun hh=>?_)))))))))
 ·cases hh
  exact t' rfl (re' (rq rfl))
 exact sk' (S' (p' 1 rfl (qe' rfl trivial (estr.lenA _) (e' rfl (bk' (fq (Hk hh) rfl))))))
mutual
def G7 (a:L0)(b:L0):Option Bool:=
 (if (bif (bif (bif (bif (a.Kind == b.Kind) then (a.Low == b.Low) else false) then (a.High == b.High) else false) then (a.Size == b.Size) else false) then (a.Name == b.Name) else false)=true then X5 a.Names b.Names else some default)>>=fun x1=>
 (if (bif (bif (bif (bif (bif (a.Kind == b.Kind) then (a.Low == b.Low) else false) then (a.High == b.High) else false) then (a.Size == b.Size) else false) then (a.Name == b.Name) else false) then x1 else false)=true then N3 a.Of b.Of else some default)>>=fun x2=>
 some (bif (bif (bif (bif (bif (bif (a.Kind == b.Kind) then (a.Low == b.Low) else false) then (a.High == b.High) else false) then (a.Size == b.Size) else false) then (a.Name == b.Name) else false) then x1 else false) then x2 else false)
 partial_fixpoint
def N3 (s1:List L0)(s2:List L0):Option Bool:=
 if (((s1).length:Int) != ((s2).length:Int))=true then
  some false
 else
  Q2 s1 s2 0
 partial_fixpoint
def Q2 (s1:List L0)(s2:List L0)(v17:Int):Option Bool:=
 if (decide (v17 < ((s1).length:Int)))=true then
  idx s1 v17>>=fun x1=>
  idx s2 v17>>=fun x2=>
  G7 x1 x2>>=fun x3=>
  if (!x3)=true then
   some false
  else
   Q2 s1 s2 (IntKind.i64.wrap (v17+1))
 else
  some true
 partial_fixpoint
end
abbrev Uo (a:L0)(b:L0)(res:Bool):Prop:=W0 C 167 [.agg (L0.cells a),.agg (L0.cells b)] [] (Ret [] (.d (.bool res)))
abbrev Nc (s1:List L0)(s2:List L0)(res:Bool):Prop:=W0 C 205 [.d (.sl (L0.rows s1)),.d (.sl (L0.rows s2)),.clo 167 []] [] (Ret [] (.d (.bool res)))
abbrev Va (s1:List L0)(s2:List L0)(v17:Int)(res:Bool):Prop:=LM C 32 0 Tryz.f205 [1,1,0,1,4] [(1,.d (.sl (L0.rows s2))),(2,.clo 167 []),(15,.d (.sl (L0.rows s1))),(16,.d (.int .i64 ((s1).length:Int))),(17,.d (.int .i64 v17))] [] (Ret [] (.d (.bool res)))
theorem Zu:(∀ a b res,G7 a b=some res→Uo a b res)∧(∀ s1 s2 res,N3 s1 s2=some res→Nc s1 s2 res)∧(∀ s1 s2 v17 res,Q2 s1 s2 v17=some res→Va s1 s2 v17 res):=by
 refine G7.mutual_partial_correctness _ _ _ ?_ ?_ ?_
 ·intro g1 ih1 a b res hh
  obtain ⟨x1,hx1,hh⟩:=bs' hh
  obtain ⟨x2,hx2,hh⟩:=bs' hh
  cases hh
  refine W0.intro hC Tryz.func167 rfl rfl rfl (s' rfl rfl (C0.n hC rfl (C0.n hC rfl (e' rfl (sg' 48 rfl (G' 7 rfl (a1' rfl (a0' rfl (a1' rfl (a2' rfl (pa' rfl (G' 2 rfl (a1' rfl ?_)))))))))))))
  refine a0' rfl (a1' rfl (a2' rfl (pa' rfl (G' 2 rfl (a1' rfl (a0' rfl (a1' rfl (a2' rfl (pa' rfl (G' 2 rfl (a1' rfl (a0' rfl (a1' rfl ?_)))))))))))))
  refine a2' rfl (pa' rfl (G' 2 rfl (a1' rfl (a0' rfl (a1' rfl (AG.c rfl rfl (fun hg=>⟨hg,hg,trivial⟩) (fun hw=>Fm (N9 hw hx1)) (pa' rfl (G' 2 rfl (a1' rfl (a0' rfl (a1' rfl (AG.c rfl rfl (fun hg=>⟨hg,hg,trivial⟩) (fun hw=>ih1 _ _ _ (N9 hw hx2)) (pa' rfl ?_)))))))))))))
  exact a0' rfl (an' (n' (re' (rq rfl))))
 ·intro g2 ih2 s1 s2 res hh
  refine W0.intro hC Tryz.func205 rfl rfl rfl (t' rfl (S' (p' 1 rfl (qe' rfl trivial (L0.lenA _) (q' rfl (qe' rfl trivial (L0.lenA _) (e' rfl (ci' rfl hh (fun hh=>?_) (fun hh=>?_)))))))))
  ·cases hh
   exact t' rfl (re' (rq rfl))
  exact sk' (S' (p' 1 rfl (qe' rfl trivial (L0.lenA _) (e' rfl (bk' (fq (ih2 _ _ _ _ hh) rfl))))))
 ·intro g0 g2 ih0 ih2 s1 s2 v17 res hh
  refine F1.unroll (t' rfl (S' (ci' rfl hh (fun hh=>?_) (fun hh=>?_))))
  ·obtain ⟨x1,hx1,hh⟩:=bs' hh
   obtain ⟨x2,hx2,hh⟩:=bs' hh
   obtain ⟨x3,hx3,hh⟩:=bs' hh
   refine sk' (S' (bk' (p' 1 rfl (i' rfl (T3 hx1) (L0.idx hx1) rfl (q' rfl (C0.nf hC rfl (q' rfl (C0.s hC rfl (n' (p' 2 rfl (i' rfl (T3 hx2) (L0.idx hx2) rfl (q' rfl (C0.nf hC rfl ?_)))))))))))))
   refine C0.s hC rfl (n' (p' 3 rfl (cq (ih0 _ _ _ hx3) rfl (e' rfl (ci' rfl hh (fun hh=>?_) (fun hh=>?_))))))
   ·cases hh
    exact t' rfl (re' (rq rfl))
   exact sk' (T' rfl (lq (ih2 _ _ _ _ hh) rfl))
  cases hh
  exact ex' (t' rfl (re' (rq rfl)))
theorem Mv {a b res}(hh:G7 a b=some res):Uo a b res:=(Zu).1 _ _ _ hh
def H7 (d:Int)(syntaxReport:D0):Option D0:=
 some (D0.mk syntaxReport.nodes (max syntaxReport.depth d) syntaxReport.badForm syntaxReport.badName syntaxReport.badNumber)
theorem Dg {d syntaxReport res}(hh:H7 d syntaxReport=some res):W0 C 173 [.ref 0 0,.d (.int .i64 d)] [.row (D0.cells syntaxReport) 154] (Ret [.row (D0.cells res) 154] (.tup [])):=by
 unfold H7 at hh
 cases hh
 exact W0.intro hC Tryz.func173 rfl rfl rfl (P' 9 rfl (C0.s hC rfl (n' (rn' rfl rfl rfl))))
def D4 (n:Int)(low:Int)(high:Int):Option Bool:=
 some (bif (decide (n≥low)) then (decide (n≤high)) else false)
theorem Q4 {n low high res}(hh:D4 n low high=some res):W0 C 172 [.d (.int .i64 n),.d (.int .i64 low),.d (.int .i64 high)] [] (Ret [] (.d (.bool res))):=by
 unfold D4 at hh
 cases hh
 exact W0.intro hC Tryz.func172 rfl rfl rfl (t' rfl (sg' 9 rfl (G' 6 rfl (a2' rfl (pa' rfl (a0' rfl (an' (n' (re' (rq rfl))))))))))
def Y2 (ok:Bool)(syntaxReport:D0):Option D0:=
 some (D0.mk syntaxReport.nodes syntaxReport.depth syntaxReport.badForm syntaxReport.badName (bif syntaxReport.badNumber then true else (!ok)))
theorem S3 {ok syntaxReport res}(hh:Y2 ok syntaxReport=some res):W0 C 171 [.ref 0 0,.d (.bool ok)] [.row (D0.cells syntaxReport) 154] (Ret [.row (D0.cells res) 154] (.tup [])):=by
 unfold Y2 at hh
 cases hh
 exact W0.intro hC Tryz.func171 rfl rfl rfl (AEx.regionG 11 rfl (G' 7 rfl (a1' rfl (po' rfl (G' 2 rfl (an' (C0.s hC rfl (n' (rn' rfl rfl rfl)))))))))
def V7 (s:Str)(v6:Int):Option Bool:=
 if (decide (v6 < ((s).length:Int)))=true then
  idx s v6>>=fun x1=>
  Db (x1.toNat:Int)>>=fun x2=>
  (if ((!x2)&&(!(v6 == 0)))=true then idx s v6 else some default)>>=fun x3=>
  (if ((!x2)&&(!(v6 == 0)))=true then Ja (x3.toNat:Int) else some default)>>=fun x4=>
  if (bif (!x2) then (bif (v6 == 0) then true else (!x4)) else false)=true then
   some false
  else
   V7 s (IntKind.i64.wrap (v6+1))
 else
  some (!(s == []))
 partial_fixpoint
abbrev Pp (s:Str)(v6:Int)(res:Bool):Prop:=LM C 28 0 Tryz.f230 [1,0,1,4] [(0,.d (.str s)),(5,.d (.int .i64 ((s).length:Int))),(6,.d (.int .i64 v6))] [] (Ret [] (.d (.bool res)))
theorem Nv (s:Str):(∀ v6 res,V7 s v6=some res→Pp s v6 res):=by
 refine V7.partial_correctness s _ ?_
 ·intro g0 ih0 v6 res hh
  refine F1.unroll (t' rfl (S' (ci' rfl hh (fun hh=>?_) (fun hh=>?_))))
  ·obtain ⟨x1,hx1,hh⟩:=bs' hh
   obtain ⟨x2,hx2,hh⟩:=bs' hh
   obtain ⟨x3,hx3,hh⟩:=bs' hh
   obtain ⟨x4,hx4,hh⟩:=bs' hh
   refine sk' (S' (bk' (t' rfl (sg' 16 rfl (G' 2 rfl (AG.x hC rfl rfl (fun _=>trivial) (fun hw=>⟨T3 hx1,Ze hx1⟩) (AG.c rfl rfl (fun _=>trivial) (fun _=>Nj hx2) (G' 3 rfl (a1' rfl (a1' rfl (G' 2 rfl (AG.x hC rfl rfl (fun hg=>⟨hg,hg,trivial⟩) (fun hw=>⟨T3 (N9 hw hx3),Ze (N9 hw hx3)⟩) (AG.c rfl rfl (fun hg=>⟨hg,trivial⟩) (fun hw=>Dh (N9 hw hx4)) ?_)))))))))))))
   refine a1' rfl (pO' rfl (pa' rfl (an' (n' (ci' rfl hh (fun hh=>?_) (fun hh=>?_))))))
   ·cases hh
    exact t' rfl (re' (rq rfl))
   exact sk' (T' rfl (lq (ih0 _ _ hh) rfl))
  cases hh
  exact ex' (t' rfl (re' (rq rfl)))
theorem Rw {s v6 res}(hh:V7 s v6=some res):Pp s v6 res:=(Nv s) _ _ hh
def Ti (s:Str):Option Bool:=
 V7 s 0
theorem A10 {s res}(hh:Ti s=some res):W0 C 230 [.d (.str s)] [] (Ret [] (.d (.bool res))):=by
 unfold Ti at hh
 exact W0.intro hC Tryz.func230 rfl rfl rfl (t' rfl (S' (t' rfl (bk' (fq (Rw hh) rfl)))))
def Ui (s:Str):Option Bool:=
 (if (decide (((s).length:Int)≤12))=true then Ti s else some default)>>=fun x1=>
 (if (bif (decide (((s).length:Int)≤12)) then x1 else false)=true then Be s else some default)>>=fun x2=>
 some (bif (bif (decide (((s).length:Int)≤12)) then x1 else false) then (!x2) else false)
theorem B10 {s res}(hh:Ui s=some res):W0 C 224 [.d (.str s)] [] (Ret [] (.d (.bool res))):=by
 unfold Ui at hh
 obtain ⟨x1,hx1,hh⟩:=bs' hh
 obtain ⟨x2,hx2,hh⟩:=bs' hh
 cases hh
 exact W0.intro hC Tryz.func224 rfl rfl rfl (t' rfl (sg' 13 rfl (G' 5 rfl (AG.c rfl rfl (fun hg=>⟨hg,trivial⟩) (fun hw=>A10 (N9 hw hx1)) (pa' rfl (G' 2 rfl (AG.c rfl rfl (fun hg=>⟨hg,trivial⟩) (fun hw=>Lp (N9 hw hx2)) (a1' rfl (pa' rfl (a0' rfl (an' (n' (re' (rq rfl))))))))))))))
def Yh (s:Str):Option Bool:=
 Ui s>>=fun x1=>
 some x1
theorem Py {s res}(hh:Yh s=some res):W0 C 206 [.d (.str s)] [] (Ret [] (.d (.bool res))):=by
 unfold Yh at hh
 obtain ⟨x1,hx1,hh⟩:=bs' hh
 cases hh
 exact W0.intro hC Tryz.func206 rfl rfl rfl (t' rfl (p' 1 rfl (cq (B10 hx1) rfl (e' rfl (re' (rq rfl))))))
def B5 (s:Str)(syntaxReport:D0):Option D0:=
 (if (!syntaxReport.badName)=true then Yh s else some default)>>=fun x1=>
 some (D0.mk syntaxReport.nodes syntaxReport.depth syntaxReport.badForm (bif syntaxReport.badName then true else (!x1)) syntaxReport.badNumber)
theorem C9 {s syntaxReport res}(hh:B5 s syntaxReport=some res):W0 C 169 [.ref 0 0,.d (.str s)] [.row (D0.cells syntaxReport) 154] (Ret [.row (D0.cells res) 154] (.tup [])):=by
 unfold B5 at hh
 obtain ⟨x1,hx1,hh⟩:=bs' hh
 cases hh
 exact W0.intro hC Tryz.func169 rfl rfl rfl (AEx.regionG 12 rfl (G' 7 rfl (AG.c rfl rfl (fun hg=>⟨hg,trivial⟩) (fun hw=>Py (N9 hw hx1)) (a1' rfl (po' rfl (G' 2 rfl (an' (C0.s hC rfl (n' (rn' rfl rfl rfl))))))))))
mutual
def F6 (t:L0)(depth:Int)(syntaxReport:D0):Option D0:=
 H7 depth (D0.mk (IntKind.i64.wrap (syntaxReport.nodes+1)) syntaxReport.depth syntaxReport.badForm syntaxReport.badName syntaxReport.badNumber)>>=fun x1=>
 N1 (bif (decide (t.Kind≥0)) then (decide (t.Kind≤4)) else false) x1>>=fun x2=>
 N1 (bif (t.Kind == 1) then true else (bif (t.Low == 0) then (t.High == 0) else false)) x2>>=fun x3=>
 N1 (bif (t.Kind == 2) then true else (t.Size == 0)) x3>>=fun x4=>
 N1 (bif (t.Kind == 4) then true else (t.Name == [])) x4>>=fun x5=>
 N1 (bif (t.Kind == 3) then true else (((t.Names).length:Int) == 0)) x5>>=fun x6=>
 if (t.Kind == 2)=true then
  N1 (((t.Of).length:Int) == 1) x6>>=fun x7=>
  D4 t.Size 1 32>>=fun x8=>
  Y2 x8 x7>>=fun x9=>
  Q7 t depth x9
 else
  if (t.Kind == 3)=true then
   N1 (bif (decide (((t.Of).length:Int)≥1)) then (((t.Of).length:Int) == ((t.Names).length:Int)) else false) x6>>=fun x14=>
   Y2 (decide (((t.Of).length:Int)≤32)) x14>>=fun x15=>
   Q7 t depth x15
  else
   N1 (((t.Of).length:Int) == 0) x6>>=fun x16=>
   Q7 t depth x16
 partial_fixpoint
def Q7 (t:L0)(depth:Int)(o0:D0):Option D0:=
 if (t.Kind == 1)=true then
  D4 t.Low (-1048576) 1048576>>=fun x10=>
  (if x10=true then D4 t.High t.Low 1048576 else some default)>>=fun x11=>
  Y2 (bif x10 then x11 else false) o0>>=fun x12=>
  P9 t depth x12
 else
  P9 t depth o0
 partial_fixpoint
def P9 (t:L0)(depth:Int)(o01:D0):Option D0:=
 if (t.Kind == 4)=true then
  B5 t.Name o01>>=fun x13=>
  Q9 t depth x13
 else
  Q9 t depth o01
 partial_fixpoint
def Q9 (t:L0)(depth:Int)(o02:D0):Option D0:=
 R9 t depth o02 0
 partial_fixpoint
def R9 (t:L0)(depth:Int)(o03:D0)(v147:Int):Option D0:=
 if (decide (v147 < ((t.Names).length:Int)))=true then
  idx t.Names v147>>=fun x17=>
  B5 x17 o03>>=fun x18=>
  R9 t depth x18 (IntKind.i64.wrap (v147+1))
 else
  S9 t depth o03 0
 partial_fixpoint
def S9 (t:L0)(depth:Int)(o04:D0)(v158:Int):Option D0:=
 if (decide (v158 < ((t.Of).length:Int)))=true then
  idx t.Of v158>>=fun x19=>
  F6 x19 (IntKind.i64.wrap (depth+1)) o04>>=fun x20=>
  S9 t depth x20 (IntKind.i64.wrap (v158+1))
 else
  some o04
 partial_fixpoint
end
abbrev Lm (t:L0)(depth:Int)(syntaxReport:D0)(res:D0):Prop:=W0 C 168 [.ref 0 0,.agg (L0.cells t),.d (.int .i64 depth)] [.row (D0.cells syntaxReport) 154] (Ret [.row (D0.cells res) 154] (.tup []))
abbrev Js (t:L0)(depth:Int)(o0:D0)(res:D0):Prop:=JM C 168 1 Tryz.f168 [1,1,1,1,1,1,1,1,1,1] [(0,.ref 0 0),(2,.d (.int .i64 depth)),(4,.ref 1 0),(6,.d (.bool (t.Kind == 1))),(9,.d (.bool (t.Kind == 4)))] [.row (D0.cells o0) 154,.row (L0.cells t) 76] (Ret [.row (D0.cells res) 154] (.tup []))
abbrev Ks (t:L0)(depth:Int)(o01:D0)(res:D0):Prop:=JM C 168 1 Tryz.f168 [1,1,1,1,1,1,1,1,1,1,1] [(0,.ref 0 0),(2,.d (.int .i64 depth)),(4,.ref 1 0),(9,.d (.bool (t.Kind == 4)))] [.row (D0.cells o01) 154,.row (L0.cells t) 76] (Ret [.row (D0.cells res) 154] (.tup []))
abbrev Ls (t:L0)(depth:Int)(o02:D0)(res:D0):Prop:=JM C 168 1 Tryz.f168 [1,1,1,1,1,1,1,1,1,1,1,1] [(0,.ref 0 0),(2,.d (.int .i64 depth)),(4,.ref 1 0)] [.row (D0.cells o02) 154,.row (L0.cells t) 76] (Ret [.row (D0.cells res) 154] (.tup []))
abbrev Ms (t:L0)(depth:Int)(o03:D0)(v147:Int)(res:D0):Prop:=LM C 168 1 Tryz.f168 [1,1,1,1,1,1,1,1,1,1,1,1,0,1,4] [(0,.ref 0 0),(2,.d (.int .i64 depth)),(4,.ref 1 0),(145,.d (.sl (estr.rows t.Names))),(146,.d (.int .i64 ((t.Names).length:Int))),(147,.d (.int .i64 v147))] [.row (D0.cells o03) 154,.row (L0.cells t) 76] (Ret [.row (D0.cells res) 154] (.tup []))
abbrev Ns (t:L0)(depth:Int)(o04:D0)(v158:Int)(res:D0):Prop:=LM C 168 1 Tryz.f168 [1,1,1,1,1,1,1,1,1,1,1,1,1,1,4] [(0,.ref 0 0),(2,.d (.int .i64 depth)),(156,.d (.sl (L0.rows t.Of))),(157,.d (.int .i64 ((t.Of).length:Int))),(158,.d (.int .i64 v158))] [.row (D0.cells o04) 154] (Ret [.row (D0.cells res) 154] (.tup []))
theorem Zt:(∀ t depth syntaxReport res,F6 t depth syntaxReport=some res→Lm t depth syntaxReport res)∧(∀ t depth o0 res,Q7 t depth o0=some res→Js t depth o0 res)∧(∀ t depth o01 res,P9 t depth o01=some res→Ks t depth o01 res)∧(∀ t depth o02 res,Q9 t depth o02=some res→Ls t depth o02 res)∧(∀ t depth o03 v147 res,R9 t depth o03 v147=some res→Ms t depth o03 v147 res)∧(∀ t depth o04 v158 res,S9 t depth o04 v158=some res→Ns t depth o04 v158 res):=by
 refine F6.mutual_partial_correctness _ _ _ _ _ _ ?_ ?_ ?_ ?_ ?_ ?_
 ·intro g1 ih1 t depth syntaxReport res hh
  obtain ⟨x1,hx1,hh⟩:=bs' hh
  obtain ⟨x2,hx2,hh⟩:=bs' hh
  obtain ⟨x3,hx3,hh⟩:=bs' hh
  obtain ⟨x4,hx4,hh⟩:=bs' hh
  obtain ⟨x5,hx5,hh⟩:=bs' hh
  obtain ⟨x6,hx6,hh⟩:=bs' hh
  refine W0.intro hC Tryz.func168 rfl rfl rfl (s' rfl rfl (C0.n hC rfl (n' (p' 7 rfl (C0.s hC rfl (n' (p' 2 rfl (gq [0] (Dg hx1) rfl (n' (sg' 9 rfl (G' 6 rfl (a1' rfl (a1' rfl ?_)))))))))))))
  refine pa' rfl (an' (gq [0] (L1 hx2) rfl (n' (S' (AEx.draw hC 16 rfl rfl rfl (E' rfl (n' (sg' 12 rfl (G' 4 rfl (a1' rfl (a1' rfl (a1' rfl (a0' rfl ?_)))))))))))))
  refine a1' rfl (a1' rfl (pA' rfl (po' rfl (an' (gq [0] (L1 hx3) rfl (n' (sg' 7 rfl (G' 4 rfl (a1' rfl (a1' rfl (po' rfl (an' (gq [0] (L1 hx4) rfl ?_)))))))))))))
  refine n' (sg' 7 rfl (G' 4 rfl (a1' rfl (a1' rfl (po' rfl (an' (gq [0] (L1 hx5) rfl (n' (sg' 8 rfl (G' 4 rfl (a1' rfl (AG.qe hC rfl (fun hg=>⟨⟨hg,trivial⟩,trivial⟩) (estr.lenA _) (a1' rfl ?_)))))))))))))
  refine po' rfl (an' (gq [0] (L1 hx6) rfl (n' (S' (bk' (t' rfl (ci' rfl hh (fun hh=>?_) (fun hh=>?_))))))))
  ·obtain ⟨x7,hx7,hh⟩:=bs' hh
   obtain ⟨x8,hx8,hh⟩:=bs' hh
   obtain ⟨x9,hx9,hh⟩:=bs' hh
   exact p' 3 rfl (qe' rfl trivial (L0.lenA _) (q' rfl (gq [0] (L1 hx7) rfl (n' (P' 3 rfl (cq (Q4 hx8) rfl (gq [0] (S3 hx9) rfl (n' (eq' (ih1 _ _ _ _ hh) rfl)))))))))
  refine t' rfl (ci' rfl hh (fun hh=>?_) (fun hh=>?_))
  ·obtain ⟨x14,hx14,hh⟩:=bs' hh
   obtain ⟨x15,hx15,hh⟩:=bs' hh
   refine sg' 14 rfl (G' 3 rfl (AG.qe hC rfl (fun hg=>⟨trivial,trivial⟩) (L0.lenA _) (G' 3 rfl (a1' rfl (AG.qe hC rfl (fun hg=>⟨⟨hg,trivial⟩,trivial⟩) (L0.lenA _) (a0' rfl (a1' rfl (AG.qe hC rfl (fun hg=>⟨⟨hg,trivial⟩,trivial⟩) (estr.lenA _) (a2' rfl (pa' rfl (an' (gq [0] (L1 hx14) rfl (n' ?_)))))))))))))
   exact P' 3 rfl (qe' rfl trivial (L0.lenA _) (q' rfl (gq [0] (S3 hx15) rfl (n' (eq' (ih1 _ _ _ _ hh) rfl)))))
  obtain ⟨x16,hx16,hh⟩:=bs' hh
  exact P' 3 rfl (qe' rfl trivial (L0.lenA _) (q' rfl (gq [0] (L1 hx16) rfl (n' (eq' (ih1 _ _ _ _ hh) rfl)))))
 ·intro g2 ih2 t depth o0 res hh
  refine S' (t' rfl (ci' rfl hh (fun hh=>?_) (fun hh=>?_)))
  ·obtain ⟨x10,hx10,hh⟩:=bs' hh
   obtain ⟨x11,hx11,hh⟩:=bs' hh
   obtain ⟨x12,hx12,hh⟩:=bs' hh
   exact AEx.regionG 11 rfl (G' 3 rfl (AG.c rfl rfl (fun _=>trivial) (fun _=>Q4 hx10) (G' 2 rfl (a1' rfl (a0' rfl (a1' rfl (AG.c rfl rfl (fun hg=>⟨hg,hg,trivial⟩) (fun hw=>Q4 (N9 hw hx11)) (pa' rfl (an' (gq [0] (S3 hx12) rfl (n' (eq' (ih2 _ _ _ _ hh) rfl))))))))))))
  exact sk' (eq' (ih2 _ _ _ _ hh) rfl)
 ·intro g3 ih3 t depth o01 res hh
  refine S' (t' rfl (ci' rfl hh (fun hh=>?_) (fun hh=>?_)))
  ·obtain ⟨x13,hx13,hh⟩:=bs' hh
   exact P' 3 rfl (gq [0] (C9 hx13) rfl (n' (eq' (ih3 _ _ _ _ hh) rfl)))
  exact sk' (eq' (ih3 _ _ _ _ hh) rfl)
 ·intro g4 ih4 t depth o02 res hh
  exact S' (p' 2 rfl (qe' rfl trivial (estr.lenA _) (e' rfl (bk' (fq (ih4 _ _ _ _ _ hh) rfl)))))
 ·intro g4 g5 ih4 ih5 t depth o03 v147 res hh
  refine F1.unroll (t' rfl (S' (ci' rfl hh (fun hh=>?_) (fun hh=>?_))))
  ·obtain ⟨x17,hx17,hh⟩:=bs' hh
   obtain ⟨x18,hx18,hh⟩:=bs' hh
   exact sk' (S' (bk' (s' rfl rfl (i' rfl (T3 hx17) (estr.idx hx17) rfl (e' rfl (P' 2 rfl (gq [0] (C9 hx18) rfl (n' (T' rfl (lq (ih4 _ _ _ _ _ hh) rfl))))))))))
  exact ex' (p' 2 rfl (qe' rfl trivial (L0.lenA _) (e' rfl (bk' (fq (ih5 _ _ _ _ _ hh) rfl)))))
 ·intro g0 g5 ih0 ih5 t depth o04 v158 res hh
  refine F1.unroll (t' rfl (S' (ci' rfl hh (fun hh=>?_) (fun hh=>?_))))
  ·obtain ⟨x19,hx19,hh⟩:=bs' hh
   obtain ⟨x20,hx20,hh⟩:=bs' hh
   exact sk' (S' (bk' (s' rfl rfl (i' rfl (T3 hx19) (L0.idx hx19) rfl (q' rfl (C0.nf hC rfl (C0.s hC rfl (n' (P' 4 rfl (gq [0] (ih0 _ _ _ _ hx20) rfl (n' (T' rfl (lq (ih5 _ _ _ _ _ hh) rfl)))))))))))))
  cases hh
  exact ex' (rn' rfl rfl rfl)
theorem Av {t depth syntaxReport res}(hh:F6 t depth syntaxReport=some res):Lm t depth syntaxReport res:=(Zt).1 _ _ _ _ hh
mutual
def I7 (a:B0)(b:B0):Option Bool:=
 (if (bif (bif (a.Op == b.Op) then (a.NV == b.NV) else false) then (a.Name == b.Name) else false)=true then O3 a.Kids b.Kids else some default)>>=fun x1=>
 some (bif (bif (bif (a.Op == b.Op) then (a.NV == b.NV) else false) then (a.Name == b.Name) else false) then x1 else false)
 partial_fixpoint
def O3 (s1:List B0)(s2:List B0):Option Bool:=
 if (((s1).length:Int) != ((s2).length:Int))=true then
  some false
 else
  R2 s1 s2 0
 partial_fixpoint
def R2 (s1:List B0)(s2:List B0)(v17:Int):Option Bool:=
 if (decide (v17 < ((s1).length:Int)))=true then
  idx s1 v17>>=fun x1=>
  idx s2 v17>>=fun x2=>
  I7 x1 x2>>=fun x3=>
  if (!x3)=true then
   some false
  else
   R2 s1 s2 (IntKind.i64.wrap (v17+1))
 else
  some true
 partial_fixpoint
end
abbrev Vo (a:B0)(b:B0)(res:Bool):Prop:=W0 C 207 [.agg (B0.cells a),.agg (B0.cells b)] [] (Ret [] (.d (.bool res)))
abbrev Oc (s1:List B0)(s2:List B0)(res:Bool):Prop:=W0 C 225 [.d (.sl (B0.rows s1)),.d (.sl (B0.rows s2)),.clo 207 []] [] (Ret [] (.d (.bool res)))
abbrev Wa (s1:List B0)(s2:List B0)(v17:Int)(res:Bool):Prop:=LM C 32 0 Tryz.f225 [1,1,0,1,4] [(1,.d (.sl (B0.rows s2))),(2,.clo 207 []),(15,.d (.sl (B0.rows s1))),(16,.d (.int .i64 ((s1).length:Int))),(17,.d (.int .i64 v17))] [] (Ret [] (.d (.bool res)))
theorem Bv:(∀ a b res,I7 a b=some res→Vo a b res)∧(∀ s1 s2 res,O3 s1 s2=some res→Oc s1 s2 res)∧(∀ s1 s2 v17 res,R2 s1 s2 v17=some res→Wa s1 s2 v17 res):=by
 refine I7.mutual_partial_correctness _ _ _ ?_ ?_ ?_
 ·intro g1 ih1 a b res hh
  obtain ⟨x1,hx1,hh⟩:=bs' hh
  cases hh
  refine W0.intro hC Tryz.func207 rfl rfl rfl (s' rfl rfl (C0.n hC rfl (C0.n hC rfl (e' rfl (sg' 27 rfl (G' 7 rfl (a1' rfl (a0' rfl (a1' rfl (a2' rfl (pa' rfl (G' 2 rfl (a1' rfl ?_)))))))))))))
  exact a0' rfl (a1' rfl (a2' rfl (pa' rfl (G' 2 rfl (a1' rfl (a0' rfl (a1' rfl (AG.c rfl rfl (fun hg=>⟨hg,hg,trivial⟩) (fun hw=>ih1 _ _ _ (N9 hw hx1)) (pa' rfl (a0' rfl (an' (n' (re' (rq rfl))))))))))))))
 ·intro g2 ih2 s1 s2 res hh
  refine W0.intro hC Tryz.func225 rfl rfl rfl (t' rfl (S' (p' 1 rfl (qe' rfl trivial (B0.lenA _) (q' rfl (qe' rfl trivial (B0.lenA _) (e' rfl (ci' rfl hh (fun hh=>?_) (fun hh=>?_)))))))))
  ·cases hh
   exact t' rfl (re' (rq rfl))
  exact sk' (S' (p' 1 rfl (qe' rfl trivial (B0.lenA _) (e' rfl (bk' (fq (ih2 _ _ _ _ hh) rfl))))))
 ·intro g0 g2 ih0 ih2 s1 s2 v17 res hh
  refine F1.unroll (t' rfl (S' (ci' rfl hh (fun hh=>?_) (fun hh=>?_))))
  ·obtain ⟨x1,hx1,hh⟩:=bs' hh
   obtain ⟨x2,hx2,hh⟩:=bs' hh
   obtain ⟨x3,hx3,hh⟩:=bs' hh
   refine sk' (S' (bk' (p' 1 rfl (i' rfl (T3 hx1) (B0.idx hx1) rfl (q' rfl (C0.nf hC rfl (q' rfl (C0.s hC rfl (n' (p' 2 rfl (i' rfl (T3 hx2) (B0.idx hx2) rfl (q' rfl (C0.nf hC rfl ?_)))))))))))))
   refine C0.s hC rfl (n' (p' 3 rfl (cq (ih0 _ _ _ hx3) rfl (e' rfl (ci' rfl hh (fun hh=>?_) (fun hh=>?_))))))
   ·cases hh
    exact t' rfl (re' (rq rfl))
   exact sk' (T' rfl (lq (ih2 _ _ _ _ hh) rfl))
  cases hh
  exact ex' (t' rfl (re' (rq rfl)))
theorem Ov {a b res}(hh:I7 a b=some res):Vo a b res:=(Bv).1 _ _ _ hh
def T9 (op:Int)(v9:Bool):Option Int:=
 if v9=true then
  some 1
 else
  if (op == 5)=true then
   some 2
  else
   if (op == 23)=true then
    some 3
   else
    if (bif (decide (op≥8)) then (decide (op≤22)) else false)=true then
     some 2
    else
     some (-1)
theorem Vi {op v9 res}(hh:T9 op v9=some res):JM C 23 0 Tryz.f208 [1,0,1,4,1,3,1] [(0,.d (.int .i64 op)),(3,.d (.int .i64 op)),(9,.d (.bool v9))] [] (Ret [] (.d (.int .i64 res))):=by
 unfold T9 at hh
 refine ci' rfl hh (fun hh=>?_) (fun hh=>?_)
 ·cases hh
  exact t' rfl (re' (rq rfl))
 refine t' rfl (ci' rfl hh (fun hh=>?_) (fun hh=>?_))
 ·cases hh
  exact t' rfl (re' (rq rfl))
 refine t' rfl (ci' rfl hh (fun hh=>?_) (fun hh=>?_))
 ·cases hh
  exact t' rfl (re' (rq rfl))
 refine sk' (S' (sg' 6 rfl (G' 4 rfl (a1' rfl (pa' rfl (an' (n' (ci' rfl hh (fun hh=>?_) (fun hh=>?_)))))))))
 ·cases hh
  exact t' rfl (re' (rq rfl))
 cases hh
 exact sk' (t' rfl (re' (rq rfl)))
def W7 (op:Int)(v4:Bool):Option Int:=
 if v4=true then
  some 0
 else
  if (op == 4)=true then
   T9 op (op == 4)
  else
   if (op == 6)=true then
    T9 op (op == 6)
   else
    T9 op (op == 7)
theorem Ef {op v4 res}(hh:W7 op v4=some res):JM C 23 0 Tryz.f208 [1,0,1,4,1] [(0,.d (.int .i64 op)),(3,.d (.int .i64 op)),(4,.d (.bool v4))] [] (Ret [] (.d (.int .i64 res))):=by
 unfold W7 at hh
 refine ci' rfl hh (fun hh=>?_) (fun hh=>?_)
 ·cases hh
  exact t' rfl (re' (rq rfl))
 refine S' (t' rfl (ci' rfl hh (fun hh=>?_) (fun hh=>?_)))
 ·exact sk' (eq' (Vi hh) rfl)
 refine t' rfl (ci' rfl hh (fun hh=>?_) (fun hh=>?_))
 ·exact sk' (eq' (Vi hh) rfl)
 exact T' rfl (eq' (Vi hh) rfl)
def Wi (op:Int):Option Int:=
 if (op == 0)=true then
  W7 op (op == 0)
 else
  if (op == 1)=true then
   W7 op (op == 1)
  else
   if (op == 2)=true then
    W7 op (op == 2)
   else
    W7 op (op == 3)
theorem C10 {op res}(hh:Wi op=some res):W0 C 208 [.d (.int .i64 op)] [] (Ret [] (.d (.int .i64 res))):=by
 unfold Wi at hh
 refine W0.intro hC Tryz.func208 rfl rfl rfl (t' rfl (S' (t' rfl (bk' (S' (t' rfl (ci' rfl hh (fun hh=>?_) (fun hh=>?_))))))))
 ·exact sk' (eq' (Ef hh) rfl)
 refine t' rfl (ci' rfl hh (fun hh=>?_) (fun hh=>?_))
 ·exact sk' (eq' (Ef hh) rfl)
 refine t' rfl (ci' rfl hh (fun hh=>?_) (fun hh=>?_))
 ·exact sk' (eq' (Ef hh) rfl)
 exact T' rfl (eq' (Ef hh) rfl)
def X7 (o0:B0):Option Bool:=
 if (bif (o0.Op == 4) then true else (o0.Op == 5))=true then
  if (((o0.Kids).length:Int) == 0)=true then
   some false
  else
   idx o0.Kids 0>>=fun x1=>
   X7 x1
 else
  some (o0.Op == 3)
 partial_fixpoint
abbrev Qp (o0:B0)(res:Bool):Prop:=LM C 22 0 Tryz.f175 [1,0,4] [(1,.ref 0 0)] [.row (B0.cells o0) 80] (Ret [] (.d (.bool res)))
theorem Pv:(∀ o0 res,X7 o0=some res→Qp o0 res):=by
 refine X7.partial_correctness _ ?_
 ·intro g0 ih0 o0 res hh
  refine F1.unroll (S' (sg' 8 rfl (G' 5 rfl (a1' rfl (a1' rfl (po' rfl (an' (n' (ci' rfl hh (fun hh=>?_) (fun hh=>?_))))))))))
  ·refine sk' (bk' (S' (p' 2 rfl (qe' rfl trivial (B0.lenA _) (e' rfl (ci' rfl hh (fun hh=>?_) (fun hh=>?_)))))))
   ·cases hh
    exact t' rfl (re' (rq rfl))
   obtain ⟨x1,hx1,hh⟩:=bs' hh
   exact sk' (P' 2 rfl (i' rfl (T3 hx1) (B0.idx hx1) rfl (q' rfl (C0.s hC rfl (n' (lq (ih0 _ _ hh) rfl))))))
  cases hh
  exact ex' (t' rfl (re' (rq rfl)))
theorem Sw {o0 res}(hh:X7 o0=some res):Qp o0 res:=(Pv) _ _ hh
def Eg (e:B0):Option Bool:=
 X7 e
theorem Zr {e res}(hh:Eg e=some res):W0 C 175 [.agg (B0.cells e)] [] (Ret [] (.d (.bool res))):=by
 unfold Eg at hh
 exact W0.intro hC Tryz.func175 rfl rfl rfl (s' rfl rfl (C0.n hC rfl (e' rfl (S' (bk' (fq (Sw hh) rfl))))))
mutual
def C5 (e:B0)(depth:Int)(syntaxReport:D0):Option D0:=
 H7 depth (D0.mk (IntKind.i64.wrap (syntaxReport.nodes+1)) syntaxReport.depth syntaxReport.badForm syntaxReport.badName syntaxReport.badNumber)>>=fun x1=>
 Wi e.Op>>=fun x2=>
 N1 (x2 == ((e.Kids).length:Int)) x1>>=fun x3=>
 N1 (bif (e.NV == 0) then true else (e.Op == 0)) x3>>=fun x4=>
 N1 (bif (e.Name == []) then true else (bif (e.Op == 3) then true else (e.Op == 4))) x4>>=fun x5=>
 if (bif (e.Op == 4) then true else (e.Op == 5))=true then
  Eg e>>=fun x6=>
  N1 x6 x5>>=fun x7=>
  D9 e depth x7
 else
  D9 e depth x5
 partial_fixpoint
def D9 (e:B0)(depth:Int)(o0:D0):Option D0:=
 if (bif (e.Op == 3) then true else (e.Op == 4))=true then
  B5 e.Name o0>>=fun x8=>
  E9 e depth x8
 else
  E9 e depth o0
 partial_fixpoint
def E9 (e:B0)(depth:Int)(o01:D0):Option D0:=
 if (e.Op == 0)=true then
  D4 e.NV 0 1048576>>=fun x9=>
  Y2 x9 o01>>=fun x10=>
  F9 e depth x10
 else
  F9 e depth o01
 partial_fixpoint
def F9 (e:B0)(depth:Int)(o02:D0):Option D0:=
 G9 e depth o02 0
 partial_fixpoint
def G9 (e:B0)(depth:Int)(o03:D0)(v82:Int):Option D0:=
 if (decide (v82 < ((e.Kids).length:Int)))=true then
  idx e.Kids v82>>=fun x11=>
  C5 x11 (IntKind.i64.wrap (depth+1)) o03>>=fun x12=>
  G9 e depth x12 (IntKind.i64.wrap (v82+1))
 else
  some o03
 partial_fixpoint
end
abbrev Tl (e:B0)(depth:Int)(syntaxReport:D0)(res:D0):Prop:=W0 C 176 [.ref 0 0,.agg (B0.cells e),.d (.int .i64 depth)] [.row (D0.cells syntaxReport) 154] (Ret [.row (D0.cells res) 154] (.tup []))
abbrev Ir (e:B0)(depth:Int)(o0:D0)(res:D0):Prop:=JM C 92 1 Tryz.f176 [1,1,1,1,1,1,1,1] [(0,.ref 0 0),(2,.d (.int .i64 depth)),(4,.ref 1 0),(6,.d (.bool (bif (e.Op == 3) then true else (e.Op == 4))))] [.row (D0.cells o0) 154,.row (B0.cells e) 80] (Ret [.row (D0.cells res) 154] (.tup []))
abbrev Jr (e:B0)(depth:Int)(o01:D0)(res:D0):Prop:=JM C 92 1 Tryz.f176 [1,1,1,1,1,1,1,1,1] [(0,.ref 0 0),(2,.d (.int .i64 depth)),(4,.ref 1 0)] [.row (D0.cells o01) 154,.row (B0.cells e) 80] (Ret [.row (D0.cells res) 154] (.tup []))
abbrev Kr (e:B0)(depth:Int)(o02:D0)(res:D0):Prop:=JM C 92 1 Tryz.f176 [1,1,1,1,1,1,1,1,1,1] [(0,.ref 0 0),(2,.d (.int .i64 depth)),(4,.ref 1 0)] [.row (D0.cells o02) 154,.row (B0.cells e) 80] (Ret [.row (D0.cells res) 154] (.tup []))
abbrev Lr (e:B0)(depth:Int)(o03:D0)(v82:Int)(res:D0):Prop:=LM C 92 1 Tryz.f176 [1,1,1,1,1,1,1,1,1,1,1,4] [(0,.ref 0 0),(2,.d (.int .i64 depth)),(80,.d (.sl (B0.rows e.Kids))),(81,.d (.int .i64 ((e.Kids).length:Int))),(82,.d (.int .i64 v82))] [.row (D0.cells o03) 154] (Ret [.row (D0.cells res) 154] (.tup []))
theorem Ps:(∀ e depth syntaxReport res,C5 e depth syntaxReport=some res→Tl e depth syntaxReport res)∧(∀ e depth o0 res,D9 e depth o0=some res→Ir e depth o0 res)∧(∀ e depth o01 res,E9 e depth o01=some res→Jr e depth o01 res)∧(∀ e depth o02 res,F9 e depth o02=some res→Kr e depth o02 res)∧(∀ e depth o03 v82 res,G9 e depth o03 v82=some res→Lr e depth o03 v82 res):=by
 refine C5.mutual_partial_correctness _ _ _ _ _ ?_ ?_ ?_ ?_ ?_
 ·intro g1 ih1 e depth syntaxReport res hh
  obtain ⟨x1,hx1,hh⟩:=bs' hh
  obtain ⟨x2,hx2,hh⟩:=bs' hh
  obtain ⟨x3,hx3,hh⟩:=bs' hh
  obtain ⟨x4,hx4,hh⟩:=bs' hh
  obtain ⟨x5,hx5,hh⟩:=bs' hh
  refine W0.intro hC Tryz.func176 rfl rfl rfl (s' rfl rfl (C0.n hC rfl (n' (p' 7 rfl (C0.s hC rfl (n' (p' 2 rfl (gq [0] (Dg hx1) rfl (n' (S' (AEx.draw hC 8 rfl rfl rfl (O' 3 rfl (Qc' (C10 hx2) rfl rfl ?_)))))))))))))
  refine O' 2 rfl (AQ.qe hC rfl trivial (B0.lenA _) (E' rfl (gq [0] (L1 hx3) rfl (n' (sg' 9 rfl (G' 6 rfl (a1' rfl (a1' rfl (po' rfl (an' (gq [0] (L1 hx4) rfl (n' (sg' 9 rfl ?_)))))))))))))
  refine G' 5 rfl (a1' rfl (a1' rfl (po' rfl (a0' rfl (an' (n' (sg' 7 rfl (G' 6 rfl (po' rfl (an' (gq [0] (L1 hx5) rfl (n' (S' ?_)))))))))))))
  refine sg' 8 rfl (G' 5 rfl (a1' rfl (a1' rfl (po' rfl (an' (n' (ci' rfl hh (fun hh=>?_) (fun hh=>?_))))))))
  ·obtain ⟨x6,hx6,hh⟩:=bs' hh
   obtain ⟨x7,hx7,hh⟩:=bs' hh
   exact P' 2 rfl (cq (Zr hx6) rfl (gq [0] (L1 hx7) rfl (n' (eq' (ih1 _ _ _ _ hh) rfl))))
  exact sk' (eq' (ih1 _ _ _ _ hh) rfl)
 ·intro g2 ih2 e depth o0 res hh
  refine S' (t' rfl (ci' rfl hh (fun hh=>?_) (fun hh=>?_)))
  ·obtain ⟨x8,hx8,hh⟩:=bs' hh
   exact P' 3 rfl (gq [0] (C9 hx8) rfl (n' (eq' (ih2 _ _ _ _ hh) rfl)))
  exact sk' (eq' (ih2 _ _ _ _ hh) rfl)
 ·intro g3 ih3 e depth o01 res hh
  refine S' (t' rfl (ci' rfl hh (fun hh=>?_) (fun hh=>?_)))
  ·obtain ⟨x9,hx9,hh⟩:=bs' hh
   obtain ⟨x10,hx10,hh⟩:=bs' hh
   exact P' 3 rfl (cq (Q4 hx9) rfl (gq [0] (S3 hx10) rfl (n' (eq' (ih3 _ _ _ _ hh) rfl))))
  exact sk' (eq' (ih3 _ _ _ _ hh) rfl)
 ·intro g4 ih4 e depth o02 res hh
  exact p' 2 rfl (qe' rfl trivial (B0.lenA _) (e' rfl (bk' (fq (ih4 _ _ _ _ _ hh) rfl))))
 ·intro g0 g4 ih0 ih4 e depth o03 v82 res hh
  refine F1.unroll (t' rfl (S' (ci' rfl hh (fun hh=>?_) (fun hh=>?_))))
  ·obtain ⟨x11,hx11,hh⟩:=bs' hh
   obtain ⟨x12,hx12,hh⟩:=bs' hh
   exact sk' (S' (bk' (s' rfl rfl (i' rfl (T3 hx11) (B0.idx hx11) rfl (q' rfl (C0.nf hC rfl (C0.s hC rfl (n' (P' 4 rfl (gq [0] (ih0 _ _ _ _ hx12) rfl (n' (T' rfl (lq (ih4 _ _ _ _ _ hh) rfl)))))))))))))
  cases hh
  exact ex' (rn' rfl rfl rfl)
theorem Vk {e depth syntaxReport res}(hh:C5 e depth syntaxReport=some res):Tl e depth syntaxReport res:=(Ps).1 _ _ _ _ hh
def D5 (e:B0)(used:Bool)(syntaxReport:D0):Option D0:=
 (if (!used)=true then I7 e (B0.mk 0 0 [] []) else some default)>>=fun x1=>
 if (bif (!used) then x1 else false)=true then
  some syntaxReport
 else
  N1 used syntaxReport>>=fun x2=>
  C5 e 1 x2>>=fun x3=>
  some x3
theorem Td {e used syntaxReport res}(hh:D5 e used syntaxReport=some res):W0 C 170 [.ref 0 0,.agg (B0.cells e),.d (.bool used)] [.row (D0.cells syntaxReport) 154] (Ret [.row (D0.cells res) 154] (.tup [])):=by
 unfold D5 at hh
 obtain ⟨x1,hx1,hh⟩:=bs' hh
 refine W0.intro hC Tryz.func170 rfl rfl rfl (s' rfl rfl (C0.n hC rfl (n' (S' (sg' 7 rfl (G' 5 rfl (AG.c rfl rfl (fun hg=>⟨hg,hg,trivial⟩) (fun hw=>Ov (N9 hw hx1)) (pa' rfl (an' (n' (ci' rfl hh (fun hh=>?_) (fun hh=>?_))))))))))))
 ·cases hh
  exact re' (rq rfl)
 obtain ⟨x2,hx2,hh⟩:=bs' hh
 obtain ⟨x3,hx3,hh⟩:=bs' hh
 cases hh
 exact sk' (p' 2 rfl (gq [0] (L1 hx2) rfl (n' (P' 2 rfl (gq [0] (Vk hx3) rfl (n' (rn' rfl rfl rfl)))))))
def Ge (v:Int):Option (B2×Bool):=
 if (v == 0)=true then
  some ((B2.mk true true false false false false false false false),true)
 else
  if (v == 1)=true then
   some ((B2.mk true false true true false false false false false),true)
  else
   if (v == 2)=true then
    some ((B2.mk true false true false false false false false false),true)
   else
    if (v == 3)=true then
     some ((B2.mk false true false false false false false false false),true)
    else
     if (v == 4)=true then
      some ((B2.mk false false false false true false false false false),true)
     else
      if (v == 5)=true then
       some ((B2.mk false true false false false false false true true),true)
      else
       if (v == 6)=true then
        some ((B2.mk false true false false true false false true false),true)
       else
        if (v == 7)=true then
         some ((B2.mk false false true false false true false true false),true)
        else
         if (v == 8)=true then
          some ((B2.mk false false false false false false true false false),true)
         else
          some ((B2.mk false false false false false false false false false),false)
theorem Qv {v res}(hh:Ge v=some res):W0 C 174 [.d (.int .i64 v)] [] (Ret [] (.tup [.agg (B2.cells res.1),.d (.bool res.2)])):=by
 unfold Ge at hh
 refine W0.intro hC Tryz.func174 rfl rfl rfl (s' rfl rfl (C0.n hC rfl (e' rfl (S' (t' rfl (bk' (t' rfl (ci' rfl hh (fun hh=>?_) (fun hh=>?_)))))))))
 ·cases hh
  exact p' 1 rfl (C0.s hC rfl (e' rfl (re' (rq rfl))))
 refine t' rfl (ci' rfl hh (fun hh=>?_) (fun hh=>?_))
 ·cases hh
  exact p' 1 rfl (C0.s hC rfl (e' rfl (re' (rq rfl))))
 refine t' rfl (ci' rfl hh (fun hh=>?_) (fun hh=>?_))
 ·cases hh
  exact p' 1 rfl (C0.s hC rfl (e' rfl (re' (rq rfl))))
 refine t' rfl (ci' rfl hh (fun hh=>?_) (fun hh=>?_))
 ·cases hh
  exact p' 1 rfl (C0.s hC rfl (e' rfl (re' (rq rfl))))
 refine t' rfl (ci' rfl hh (fun hh=>?_) (fun hh=>?_))
 ·cases hh
  exact p' 1 rfl (C0.s hC rfl (e' rfl (re' (rq rfl))))
 refine t' rfl (ci' rfl hh (fun hh=>?_) (fun hh=>?_))
 ·cases hh
  exact p' 1 rfl (C0.s hC rfl (e' rfl (re' (rq rfl))))
 refine t' rfl (ci' rfl hh (fun hh=>?_) (fun hh=>?_))
 ·cases hh
  exact p' 1 rfl (C0.s hC rfl (e' rfl (re' (rq rfl))))
 refine t' rfl (ci' rfl hh (fun hh=>?_) (fun hh=>?_))
 ·cases hh
  exact p' 1 rfl (C0.s hC rfl (e' rfl (re' (rq rfl))))
 refine t' rfl (ci' rfl hh (fun hh=>?_) (fun hh=>?_))
 ·cases hh
  exact p' 1 rfl (C0.s hC rfl (e' rfl (re' (rq rfl))))
 cases hh
 exact sk' (p' 1 rfl (C0.s hC rfl (e' rfl (re' (rq rfl)))))
def H4 (s:J0)(o0:D0)(last:Int)(v58:Int):Option D0:=
 if (decide (v58 < ((s.Numbers).length:Int)))=true then
  idx s.Numbers v58>>=fun x10=>
  D4 x10 0 1048576>>=fun x11=>
  Y2 (bif x11 then (decide (x10 > last)) else false) o0>>=fun x12=>
  H4 s x12 x10 (IntKind.i64.wrap (v58+1))
 else
  some o0
 partial_fixpoint
abbrev Zh (s:J0)(o0:D0)(last:Int)(v58:Int)(res:D0):Prop:=LM C 73 1 Tryz.f177 [1,1,4,1,3,1,3,1,3,1,2,1,1,1,4] [(0,.ref 0 0),(5,.d (.int .i64 last)),(56,.d (.sl (ei64.rows s.Numbers))),(57,.d (.int .i64 ((s.Numbers).length:Int))),(58,.d (.int .i64 v58))] [.row (D0.cells o0) 154] (Ret [.row (D0.cells res) 154] (.tup []))
theorem Bn (s:J0):(∀ o0 last v58 res,H4 s o0 last v58=some res→Zh s o0 last v58 res):=by
 refine H4.partial_correctness s _ ?_
 ·intro g0 ih0 o0 last v58 res hh
  refine F1.unroll (t' rfl (S' (ci' rfl hh (fun hh=>?_) (fun hh=>?_))))
  ·obtain ⟨x10,hx10,hh⟩:=bs' hh
   obtain ⟨x11,hx11,hh⟩:=bs' hh
   obtain ⟨x12,hx12,hh⟩:=bs' hh
   refine sk' (S' (bk' (s' rfl rfl (i' rfl (T3 hx10) (ei64.idx hx10) rfl (e' rfl (sg' 8 rfl (G' 2 rfl (AG.c rfl rfl (fun _=>trivial) (fun _=>Q4 hx11) (G' 3 rfl (a2' rfl (pa' rfl (an' (gq [0] (S3 hx12) rfl ?_)))))))))))))
   exact n' (T' rfl (T' rfl (lq (ih0 _ _ _ _ hh) rfl)))
  cases hh
  exact ex' (rn' rfl rfl rfl)
theorem Wo {s o0 last v58 res}(hh:H4 s o0 last v58=some res):Zh s o0 last v58 res:=(Bn s) _ _ _ _ hh
def H9 (s:J0)(syntaxReport:D0):Option D0:=
 if (s.Verb == 4)=true then
  D4 s.NV 0 1048576>>=fun x1=>
  Y2 x1 syntaxReport>>=fun x2=>
  some x2
 else
  if (s.Verb == 6)=true then
   D4 s.NV 0 4096>>=fun x3=>
   Y2 x3 syntaxReport>>=fun x4=>
   some x4
  else
   if (s.Verb == 7)=true then
    D4 s.Low (-1048576) 1048576>>=fun x5=>
    (if x5=true then D4 s.High s.Low 1048576 else some default)>>=fun x6=>
    Y2 (bif (bif x5 then x6 else false) then (decide ((IntKind.i64.wrap (s.High - s.Low)) < 4096)) else false) syntaxReport>>=fun x7=>
    some x7
   else
    if (s.Verb == 8)=true then
     D4 ((s.Numbers).length:Int) 1 32>>=fun x8=>
     Y2 x8 syntaxReport>>=fun x9=>
     H4 s x9 (-1) 0
    else
     some syntaxReport
theorem Rq {s syntaxReport res}(hh:H9 s syntaxReport=some res):W0 C 177 [.ref 0 0,.agg (J0.cells s)] [.row (D0.cells syntaxReport) 154] (Ret [.row (D0.cells res) 154] (.tup [])):=by
 unfold H9 at hh
 refine W0.intro hC Tryz.func177 rfl rfl rfl (s' rfl rfl (C0.n hC rfl (n' (t' rfl (bk' (t' rfl (ci' rfl hh (fun hh=>?_) (fun hh=>?_))))))))
 ·obtain ⟨x1,hx1,hh⟩:=bs' hh
  obtain ⟨x2,hx2,hh⟩:=bs' hh
  cases hh
  exact P' 3 rfl (cq (Q4 hx1) rfl (gq [0] (S3 hx2) rfl (n' (rn' rfl rfl rfl))))
 refine t' rfl (ci' rfl hh (fun hh=>?_) (fun hh=>?_))
 ·obtain ⟨x3,hx3,hh⟩:=bs' hh
  obtain ⟨x4,hx4,hh⟩:=bs' hh
  cases hh
  exact P' 3 rfl (cq (Q4 hx3) rfl (gq [0] (S3 hx4) rfl (n' (rn' rfl rfl rfl))))
 refine t' rfl (ci' rfl hh (fun hh=>?_) (fun hh=>?_))
 ·obtain ⟨x5,hx5,hh⟩:=bs' hh
  obtain ⟨x6,hx6,hh⟩:=bs' hh
  obtain ⟨x7,hx7,hh⟩:=bs' hh
  cases hh
  refine sg' 11 rfl (G' 2 rfl (AG.c rfl rfl (fun _=>trivial) (fun _=>Q4 hx5) (G' 2 rfl (a1' rfl (a0' rfl (a1' rfl (AG.c rfl rfl (fun hg=>⟨hg,hg,trivial⟩) (fun hw=>Q4 (N9 hw hx6)) (pa' rfl (a0' rfl (an' (n' (AEx.regionG 10 rfl (G' 4 rfl ?_)))))))))))))
  exact a1' rfl (a0' rfl (a1' rfl (a2' rfl (a1' rfl (pa' rfl (an' (gq [0] (S3 hx7) rfl (n' (rn' rfl rfl rfl)))))))))
 refine t' rfl (ci' rfl hh (fun hh=>?_) (fun hh=>?_))
 ·obtain ⟨x8,hx8,hh⟩:=bs' hh
  obtain ⟨x9,hx9,hh⟩:=bs' hh
  exact p' 3 rfl (qe' rfl trivial (ei64.lenA _) (cq (Q4 hx8) rfl (gq [0] (S3 hx9) rfl (n' (t' rfl (p' 2 rfl (qe' rfl trivial (ei64.lenA _) (e' rfl (bk' (fq (Wo hh) rfl))))))))))
 cases hh
 exact sk' (rn' rfl rfl rfl)
mutual
def P4 (l:List J0)(nesting:Int)(syntaxReport:D0):Option D0:=
 H8 l nesting syntaxReport 0
 partial_fixpoint
def H8 (l:List J0)(nesting:Int)(o03:D0)(v14:Int):Option D0:=
 if (decide (v14 < ((l).length:Int)))=true then
  idx l v14>>=fun x1=>
  H7 nesting (D0.mk (IntKind.i64.wrap (o03.nodes+1)) o03.depth o03.badForm o03.badName o03.badNumber)>>=fun x2=>
  Ge x1.Verb>>=fun x3=>
  N1 x3.2 x2>>=fun x4=>
  D5 x1.Place x3.1.place x4>>=fun x5=>
  if x3.1.place=true then
   Eg x1.Place>>=fun x6=>
   N1 x6 x5>>=fun x7=>
   I8 l nesting x7 x1 x3 v14
  else
   I8 l nesting x5 x1 x3 v14
 else
  some o03
 partial_fixpoint
def I8 (l:List J0)(nesting:Int)(o0:D0)(x1:J0)(x3:B2×Bool)(v141:Int):Option D0:=
 D5 x1.Value x3.1.value o0>>=fun x8=>
 N1 (bif x3.1.name then true else (x1.Name == [])) x8>>=fun x9=>
 if x3.1.name=true then
  B5 x1.Name x9>>=fun x10=>
  J8 l nesting x10 x1 x3 v141
 else
  J8 l nesting x9 x1 x3 v141
 partial_fixpoint
def J8 (l:List J0)(nesting:Int)(o01:D0)(x1:J0)(x3:B2×Bool)(v142:Int):Option D0:=
 N1 (bif x3.1.args then true else (((x1.Args).length:Int) == 0)) o01>>=fun x11=>
 K8 l nesting x11 x1 x3 v142 0
 partial_fixpoint
def K8 (l:List J0)(nesting:Int)(o02:D0)(x1:J0)(x3:B2×Bool)(v143:Int)(v84:Int):Option D0:=
 if (decide (v84 < ((x1.Args).length:Int)))=true then
  idx x1.Args v84>>=fun x12=>
  C5 x12 1 o02>>=fun x13=>
  K8 l nesting x13 x1 x3 v143 (IntKind.i64.wrap (v84+1))
 else
  N1 (bif x3.1.n then true else (x1.NV == 0)) o02>>=fun x14=>
  N1 (bif x3.1.bounds then true else (bif (x1.Low == 0) then (x1.High == 0) else false)) x14>>=fun x15=>
  N1 (bif x3.1.numbers then true else (((x1.Numbers).length:Int) == 0)) x15>>=fun x16=>
  N1 (bif x3.1.thenV then true else (((x1.Then).length:Int) == 0)) x16>>=fun x17=>
  N1 (bif x3.1.other then true else (((x1.Else).length:Int) == 0)) x17>>=fun x18=>
  H9 x1 x18>>=fun x19=>
  P4 x1.Then (IntKind.i64.wrap (nesting+1)) x19>>=fun x20=>
  P4 x1.Else (IntKind.i64.wrap (nesting+1)) x20>>=fun x21=>
  H8 l nesting x21 (IntKind.i64.wrap (v143+1))
 partial_fixpoint
end
abbrev Xk (l:List J0)(nesting:Int)(syntaxReport:D0)(res:D0):Prop:=W0 C 106 [.ref 0 0,.d (.sl (J0.rows l)),.d (.int .i64 nesting)] [.row (D0.cells syntaxReport) 154] (Ret [.row (D0.cells res) 154] (.tup []))
abbrev Sq (l:List J0)(nesting:Int)(o03:D0)(v14:Int)(res:D0):Prop:=LM C 161 1 Tryz.f106 [1,4] [(0,.ref 0 0),(2,.d (.int .i64 nesting)),(12,.d (.sl (J0.rows l))),(13,.d (.int .i64 ((l).length:Int))),(14,.d (.int .i64 v14))] [.row (D0.cells o03) 154] (Ret [.row (D0.cells res) 154] (.tup []))
abbrev Tq (l:List J0)(nesting:Int)(o0:D0)(x1:J0)(x3:B2×Bool)(v141:Int)(res:D0):Prop:=JM C 161 1 Tryz.f106 [1,4,5,1,1,0,4,1,1,1,1,1,1,1] [(0,.ref 0 0),(2,.d (.int .i64 nesting)),(7,.ref 1 0),(8,.ref 2 0),(12,.d (.sl (J0.rows l))),(13,.d (.int .i64 ((l).length:Int))),(14,.d (.int .i64 v141))] [.row (D0.cells o0) 154,.row (J0.cells x1) 88,.row (B2.cells x3.1) 200] (Ret [.row (D0.cells res) 154] (.tup []))
abbrev Uq (l:List J0)(nesting:Int)(o01:D0)(x1:J0)(x3:B2×Bool)(v142:Int)(res:D0):Prop:=JM C 161 1 Tryz.f106 [1,4,5,1,1,0,4,1,1,1,1,1,1,1,1,1,1] [(0,.ref 0 0),(2,.d (.int .i64 nesting)),(7,.ref 1 0),(8,.ref 2 0),(12,.d (.sl (J0.rows l))),(13,.d (.int .i64 ((l).length:Int))),(14,.d (.int .i64 v142))] [.row (D0.cells o01) 154,.row (J0.cells x1) 88,.row (B2.cells x3.1) 200] (Ret [.row (D0.cells res) 154] (.tup []))
abbrev Vq (l:List J0)(nesting:Int)(o02:D0)(x1:J0)(x3:B2×Bool)(v143:Int)(v84:Int)(res:D0):Prop:=LM C 161 1 Tryz.f106 [1,4,5,1,1,0,4,1,1,1,1,1,1,1,1,1,1,1,0,1,4] [(0,.ref 0 0),(2,.d (.int .i64 nesting)),(7,.ref 1 0),(8,.ref 2 0),(12,.d (.sl (J0.rows l))),(13,.d (.int .i64 ((l).length:Int))),(14,.d (.int .i64 v143)),(82,.d (.sl (B0.rows x1.Args))),(83,.d (.int .i64 ((x1.Args).length:Int))),(84,.d (.int .i64 v84))] [.row (D0.cells o02) 154,.row (J0.cells x1) 88,.row (B2.cells x3.1) 200] (Ret [.row (D0.cells res) 154] (.tup []))
theorem Mr:(∀ l nesting syntaxReport res,P4 l nesting syntaxReport=some res→Xk l nesting syntaxReport res)∧(∀ l nesting o03 v14 res,H8 l nesting o03 v14=some res→Sq l nesting o03 v14 res)∧(∀ l nesting o0 x1 x3 v141 res,I8 l nesting o0 x1 x3 v141=some res→Tq l nesting o0 x1 x3 v141 res)∧(∀ l nesting o01 x1 x3 v142 res,J8 l nesting o01 x1 x3 v142=some res→Uq l nesting o01 x1 x3 v142 res)∧(∀ l nesting o02 x1 x3 v143 v84 res,K8 l nesting o02 x1 x3 v143 v84=some res→Vq l nesting o02 x1 x3 v143 v84 res):=by
 refine P4.mutual_partial_correctness _ _ _ _ _ ?_ ?_ ?_ ?_ ?_
 ·intro g1 ih1 l nesting syntaxReport res hh
  exact W0.intro hC Tryz.func106 rfl rfl rfl (p' 1 rfl (qe' rfl trivial (J0.lenA _) (e' rfl (bk' (fq (ih1 _ _ _ _ _ hh) rfl)))))
 ·intro g2 ih2 l nesting o03 v14 res hh
  refine F1.unroll (t' rfl (S' (ci' rfl hh (fun hh=>?_) (fun hh=>?_))))
  ·obtain ⟨x1,hx1,hh⟩:=bs' hh
   obtain ⟨x2,hx2,hh⟩:=bs' hh
   obtain ⟨x3,hx3,hh⟩:=bs' hh
   obtain ⟨x4,hx4,hh⟩:=bs' hh
   obtain ⟨x5,hx5,hh⟩:=bs' hh
   refine sk' (S' (bk' (s' rfl rfl (i' rfl (T3 hx1) (J0.idx hx1) rfl (q' rfl (C0.nf hC rfl (C0.s hC rfl (n' (p' 7 rfl (C0.s hC rfl (n' (p' 2 rfl (gq [0] (Dg hx2) rfl ?_)))))))))))))
   refine n' (p' 2 rfl (cq (Qv hx3) rfl (o' 3 rfl (C0.n hC rfl (C0.s hC rfl (e' rfl (p' 2 rfl (gq [0] (L1 hx4) rfl (n' (p' 5 rfl (gq [0] (Td hx5) rfl (n' (S' ?_)))))))))))))
   refine t' rfl (ci' rfl hh (fun hh=>?_) (fun hh=>?_))
   ·obtain ⟨x6,hx6,hh⟩:=bs' hh
    obtain ⟨x7,hx7,hh⟩:=bs' hh
    exact P' 3 rfl (cq (Zr hx6) rfl (gq [0] (L1 hx7) rfl (n' (eq' (ih2 _ _ _ _ _ _ _ hh) rfl))))
   exact sk' (eq' (ih2 _ _ _ _ _ _ _ hh) rfl)
  cases hh
  exact ex' (rn' rfl rfl rfl)
 ·intro g3 ih3 l nesting o0 x1 x3 v141 res hh
  obtain ⟨x8,hx8,hh⟩:=bs' hh
  obtain ⟨x9,hx9,hh⟩:=bs' hh
  refine p' 5 rfl (gq [0] (Td hx8) rfl (n' (sg' 8 rfl (G' 5 rfl (a1' rfl (a1' rfl (po' rfl (an' (gq [0] (L1 hx9) rfl (n' (S' (t' rfl (ci' rfl hh (fun hh=>?_) (fun hh=>?_))))))))))))))
  ·obtain ⟨x10,hx10,hh⟩:=bs' hh
   exact P' 3 rfl (gq [0] (C9 hx10) rfl (n' (eq' (ih3 _ _ _ _ _ _ _ hh) rfl)))
  exact sk' (eq' (ih3 _ _ _ _ _ _ _ hh) rfl)
 ·intro g4 ih4 l nesting o01 x1 x3 v142 res hh
  obtain ⟨x11,hx11,hh⟩:=bs' hh
  exact sg' 9 rfl (G' 5 rfl (a1' rfl (AG.qe hC rfl (fun hg=>⟨⟨hg,trivial⟩,trivial⟩) (B0.lenA _) (a1' rfl (po' rfl (an' (gq [0] (L1 hx11) rfl (n' (S' (p' 2 rfl (qe' rfl trivial (B0.lenA _) (e' rfl (bk' (fq (ih4 _ _ _ _ _ _ _ _ hh) rfl))))))))))))))
 ·intro g0 g1 g4 ih0 ih1 ih4 l nesting o02 x1 x3 v143 v84 res hh
  refine F1.unroll (t' rfl (S' (ci' rfl hh (fun hh=>?_) (fun hh=>?_))))
  ·obtain ⟨x12,hx12,hh⟩:=bs' hh
   obtain ⟨x13,hx13,hh⟩:=bs' hh
   exact sk' (S' (bk' (s' rfl rfl (i' rfl (T3 hx12) (B0.idx hx12) rfl (q' rfl (C0.nf hC rfl (C0.s hC rfl (n' (P' 2 rfl (gq [0] (Vk hx13) rfl (n' (T' rfl (lq (ih4 _ _ _ _ _ _ _ _ hh) rfl)))))))))))))
  obtain ⟨x14,hx14,hh⟩:=bs' hh
  obtain ⟨x15,hx15,hh⟩:=bs' hh
  obtain ⟨x16,hx16,hh⟩:=bs' hh
  obtain ⟨x17,hx17,hh⟩:=bs' hh
  obtain ⟨x18,hx18,hh⟩:=bs' hh
  obtain ⟨x19,hx19,hh⟩:=bs' hh
  obtain ⟨x20,hx20,hh⟩:=bs' hh
  obtain ⟨x21,hx21,hh⟩:=bs' hh
  refine ex' (sg' 8 rfl (G' 5 rfl (a1' rfl (a1' rfl (po' rfl (an' (gq [0] (L1 hx14) rfl (n' (sg' 13 rfl (G' 5 rfl (a1' rfl (a1' rfl (a1' rfl ?_)))))))))))))
  refine a0' rfl (a1' rfl (a1' rfl (pA' rfl (po' rfl (an' (gq [0] (L1 hx15) rfl (n' (sg' 9 rfl (G' 5 rfl (a1' rfl (AG.qe hC rfl (fun hg=>⟨⟨hg,trivial⟩,trivial⟩) (ei64.lenA _) (a1' rfl (po' rfl ?_)))))))))))))
  refine an' (gq [0] (L1 hx16) rfl (n' (sg' 9 rfl (G' 5 rfl (a1' rfl (AG.qe hC rfl (fun hg=>⟨⟨hg,trivial⟩,trivial⟩) (J0.lenA _) (a1' rfl (po' rfl (an' (gq [0] (L1 hx17) rfl (n' (sg' 9 rfl (G' 5 rfl ?_)))))))))))))
  refine a1' rfl (AG.qe hC rfl (fun hg=>⟨⟨hg,trivial⟩,trivial⟩) (J0.lenA _) (a1' rfl (po' rfl (an' (gq [0] (L1 hx18) rfl (n' (p' 2 rfl (gq [0] (Rq hx19) rfl (n' (p' 5 rfl (gq [0] (ih0 _ _ _ _ hx20) rfl (n' (P' 5 rfl ?_)))))))))))))
  exact gq [0] (ih0 _ _ _ _ hx21) rfl (n' (T' rfl (lq (ih1 _ _ _ _ _ hh) rfl)))
theorem Wj {l nesting syntaxReport res}(hh:P4 l nesting syntaxReport=some res):Xk l nesting syntaxReport res:=(Mr).1 _ _ _ _ hh
mutual
def Y4 (l:List E0)(syntaxReport:D0):Option D0:=
 L8 l syntaxReport 0
 partial_fixpoint
def L8 (l:List E0)(o03:D0)(v15:Int):Option D0:=
 if (decide (v15 < ((l).length:Int)))=true then
  idx l v15>>=fun x1=>
  Df x1.Kind>>=fun x2=>
  N1 x2.1 (D0.mk (IntKind.i64.wrap (o03.nodes+1)) o03.depth o03.badForm o03.badName o03.badNumber)>>=fun x3=>
  (if (!x2.1)=true then G7 x1.TypeV (L0.mk 0 0 0 0 [] [] []) else some default)>>=fun x4=>
  if (bif x2.1 then true else (!x4))=true then
   F6 x1.TypeV 1 x3>>=fun x5=>
   M8 l x5 x1 x2 v15
  else
   M8 l x3 x1 x2 v15
 else
  some o03
 partial_fixpoint
def M8 (l:List E0)(o0:D0)(x1:E0)(x2:Bool×Bool)(v151:Int):Option D0:=
 B5 x1.Name o0>>=fun x6=>
 D5 x1.Value x2.2 x6>>=fun x7=>
 N1 (bif (x1.Kind == 4) then true else (x1.Init == 0)) x7>>=fun x8=>
 D4 x1.Init (-1048576) 1048576>>=fun x9=>
 (if (x9&&(!(x1.TypeV.Kind != 0)))=true then D4 x1.Init 0 1 else some default)>>=fun x10=>
 Y2 (bif x9 then (bif (x1.TypeV.Kind != 0) then true else x10) else false) x8>>=fun x11=>
 N1 (bif (x1.Kind == 6) then true else (bif (bif (((x1.Params).length:Int) == 0) then (((x1.Vars).length:Int) == 0) else false) then (((x1.Body).length:Int) == 0) else false)) x11>>=fun x12=>
 N8 l x12 x1 v151 0
 partial_fixpoint
def N8 (l:List E0)(o01:D0)(x1:E0)(v152:Int)(v109:Int):Option D0:=
 if (decide (v109 < ((x1.Params).length:Int)))=true then
  idx x1.Params v109>>=fun x13=>
  N1 (bif (x13.Kind == 4) then (x13.Init == 0) else false) o01>>=fun x14=>
  N8 l x14 x1 v152 (IntKind.i64.wrap (v109+1))
 else
  O8 l o01 x1 v152 0
 partial_fixpoint
def O8 (l:List E0)(o02:D0)(x1:E0)(v153:Int)(v127:Int):Option D0:=
 if (decide (v127 < ((x1.Vars).length:Int)))=true then
  idx x1.Vars v127>>=fun x15=>
  N1 (x15.Kind == 4) o02>>=fun x16=>
  O8 l x16 x1 v153 (IntKind.i64.wrap (v127+1))
 else
  Y4 x1.Params o02>>=fun x17=>
  Y4 x1.Vars x17>>=fun x18=>
  P4 x1.Body 1 x18>>=fun x19=>
  L8 l x19 (IntKind.i64.wrap (v153+1))
 partial_fixpoint
end
abbrev Yk (l:List E0)(syntaxReport:D0)(res:D0):Prop:=W0 C 105 [.ref 0 0,.d (.sl (E0.rows l))] [.row (D0.cells syntaxReport) 154] (Ret [.row (D0.cells res) 154] (.tup []))
abbrev Wq (l:List E0)(o03:D0)(v15:Int)(res:D0):Prop:=LM C 150 1 Tryz.f105 [1,4] [(0,.ref 0 0),(13,.d (.sl (E0.rows l))),(14,.d (.int .i64 ((l).length:Int))),(15,.d (.int .i64 v15))] [.row (D0.cells o03) 154] (Ret [.row (D0.cells res) 154] (.tup []))
abbrev Xq (l:List E0)(o0:D0)(x1:E0)(x2:Bool×Bool)(v151:Int)(res:D0):Prop:=JM C 150 1 Tryz.f105 [1,4,5,1,1,0,4,1,1,1,1,1] [(0,.ref 0 0),(5,.ref 1 0),(7,.d (.bool x2.2)),(13,.d (.sl (E0.rows l))),(14,.d (.int .i64 ((l).length:Int))),(15,.d (.int .i64 v151))] [.row (D0.cells o0) 154,.row (E0.cells x1) 82] (Ret [.row (D0.cells res) 154] (.tup []))
abbrev Yq (l:List E0)(o01:D0)(x1:E0)(v152:Int)(v109:Int)(res:D0):Prop:=LM C 150 1 Tryz.f105 [1,4,5,1,1,0,4,1,1,1,1,1,1,1,1,1,1,1,0,1,4] [(0,.ref 0 0),(5,.ref 1 0),(13,.d (.sl (E0.rows l))),(14,.d (.int .i64 ((l).length:Int))),(15,.d (.int .i64 v152)),(107,.d (.sl (E0.rows x1.Params))),(108,.d (.int .i64 ((x1.Params).length:Int))),(109,.d (.int .i64 v109))] [.row (D0.cells o01) 154,.row (E0.cells x1) 82] (Ret [.row (D0.cells res) 154] (.tup []))
abbrev Zq (l:List E0)(o02:D0)(x1:E0)(v153:Int)(v127:Int)(res:D0):Prop:=LM C 150 1 Tryz.f105 [1,4,5,1,1,0,4,1,1,1,1,1,1,1,1,1,1,1,1,0,1,4] [(0,.ref 0 0),(5,.ref 1 0),(13,.d (.sl (E0.rows l))),(14,.d (.int .i64 ((l).length:Int))),(15,.d (.int .i64 v153)),(125,.d (.sl (E0.rows x1.Vars))),(126,.d (.int .i64 ((x1.Vars).length:Int))),(127,.d (.int .i64 v127))] [.row (D0.cells o02) 154,.row (E0.cells x1) 82] (Ret [.row (D0.cells res) 154] (.tup []))
theorem Nr:(∀ l syntaxReport res,Y4 l syntaxReport=some res→Yk l syntaxReport res)∧(∀ l o03 v15 res,L8 l o03 v15=some res→Wq l o03 v15 res)∧(∀ l o0 x1 x2 v151 res,M8 l o0 x1 x2 v151=some res→Xq l o0 x1 x2 v151 res)∧(∀ l o01 x1 v152 v109 res,N8 l o01 x1 v152 v109=some res→Yq l o01 x1 v152 v109 res)∧(∀ l o02 x1 v153 v127 res,O8 l o02 x1 v153 v127=some res→Zq l o02 x1 v153 v127 res):=by
 refine Y4.mutual_partial_correctness _ _ _ _ _ ?_ ?_ ?_ ?_ ?_
 ·intro g1 ih1 l syntaxReport res hh
  exact W0.intro hC Tryz.func105 rfl rfl rfl (p' 1 rfl (qe' rfl trivial (E0.lenA _) (e' rfl (bk' (fq (ih1 _ _ _ _ hh) rfl)))))
 ·intro g2 ih2 l o03 v15 res hh
  refine F1.unroll (t' rfl (S' (ci' rfl hh (fun hh=>?_) (fun hh=>?_))))
  ·obtain ⟨x1,hx1,hh⟩:=bs' hh
   obtain ⟨x2,hx2,hh⟩:=bs' hh
   obtain ⟨x3,hx3,hh⟩:=bs' hh
   obtain ⟨x4,hx4,hh⟩:=bs' hh
   refine sk' (S' (bk' (s' rfl rfl (i' rfl (T3 hx1) (E0.idx hx1) rfl (q' rfl (C0.nf hC rfl (C0.s hC rfl (n' (p' 7 rfl (C0.s hC rfl (n' (p' 2 rfl (cq (Pw hx2) rfl ?_)))))))))))))
   refine e' rfl (p' 2 rfl (gq [0] (L1 hx3) rfl (n' (S' (sg' 8 rfl (G' 3 rfl (a1' rfl (a0' rfl (AG.c rfl rfl (fun hg=>⟨hg,hg,trivial⟩) (fun hw=>Mv (N9 hw hx4)) (a1' rfl (po' rfl (an' (n' (ci' rfl hh (fun hh=>?_) (fun hh=>?_)))))))))))))))
   ·obtain ⟨x5,hx5,hh⟩:=bs' hh
    exact P' 3 rfl (gq [0] (Av hx5) rfl (n' (eq' (ih2 _ _ _ _ _ _ hh) rfl)))
   exact sk' (eq' (ih2 _ _ _ _ _ _ hh) rfl)
  cases hh
  exact ex' (rn' rfl rfl rfl)
 ·intro g3 ih3 l o0 x1 x2 v151 res hh
  obtain ⟨x6,hx6,hh⟩:=bs' hh
  obtain ⟨x7,hx7,hh⟩:=bs' hh
  obtain ⟨x8,hx8,hh⟩:=bs' hh
  obtain ⟨x9,hx9,hh⟩:=bs' hh
  obtain ⟨x10,hx10,hh⟩:=bs' hh
  obtain ⟨x11,hx11,hh⟩:=bs' hh
  obtain ⟨x12,hx12,hh⟩:=bs' hh
  refine p' 3 rfl (gq [0] (C9 hx6) rfl (n' (p' 4 rfl (gq [0] (Td hx7) rfl (n' (sg' 9 rfl (G' 6 rfl (a1' rfl (a1' rfl (po' rfl (an' (gq [0] (L1 hx8) rfl (n' ?_)))))))))))))
  refine sg' 15 rfl (G' 3 rfl (AG.c rfl rfl (fun _=>trivial) (fun _=>Q4 hx9) (G' 2 rfl (a1' rfl (a1' rfl (a1' rfl (a1' rfl (a0' rfl (a1' rfl (AG.c rfl rfl (fun hg=>⟨hg,trivial⟩) (fun hw=>Q4 (N9 hw hx10)) (pO' rfl (pa' rfl (an' ?_)))))))))))))
  refine gq [0] (S3 hx11) rfl (n' (t' rfl (sg' 20 rfl (G' 4 rfl (a1' rfl (AG.qe hC rfl (fun hg=>⟨⟨hg,trivial⟩,trivial⟩) (E0.lenA _) (a1' rfl (a1' rfl (a0' rfl (a1' rfl (AG.qe hC rfl (fun hg=>⟨⟨hg,trivial⟩,trivial⟩) (E0.lenA _) (a1' rfl (pA' rfl ?_)))))))))))))
  refine a1' rfl (a0' rfl (a1' rfl (AG.qe hC rfl (fun hg=>⟨⟨hg,trivial⟩,trivial⟩) (J0.lenA _) (a1' rfl (pA' rfl (po' rfl (an' (gq [0] (L1 hx12) rfl (n' (S' (p' 2 rfl (qe' rfl trivial (E0.lenA _) (e' rfl ?_)))))))))))))
  exact bk' (fq (ih3 _ _ _ _ _ _ hh) rfl)
 ·intro g3 g4 ih3 ih4 l o01 x1 v152 v109 res hh
  refine F1.unroll (t' rfl (S' (ci' rfl hh (fun hh=>?_) (fun hh=>?_))))
  ·obtain ⟨x13,hx13,hh⟩:=bs' hh
   obtain ⟨x14,hx14,hh⟩:=bs' hh
   refine sk' (S' (bk' (s' rfl rfl (i' rfl (T3 hx13) (E0.idx hx13) rfl (q' rfl (C0.nf hC rfl (C0.s hC rfl (n' (AEx.regionG 9 rfl (G' 6 rfl (a1' rfl (a1' rfl (pa' rfl ?_)))))))))))))
   exact an' (gq [0] (L1 hx14) rfl (n' (T' rfl (lq (ih3 _ _ _ _ _ _ hh) rfl))))
  exact ex' (S' (p' 2 rfl (qe' rfl trivial (E0.lenA _) (e' rfl (bk' (fq (ih4 _ _ _ _ _ _ hh) rfl))))))
 ·intro g0 g1 g4 ih0 ih1 ih4 l o02 x1 v153 v127 res hh
  refine F1.unroll (t' rfl (S' (ci' rfl hh (fun hh=>?_) (fun hh=>?_))))
  ·obtain ⟨x15,hx15,hh⟩:=bs' hh
   obtain ⟨x16,hx16,hh⟩:=bs' hh
   exact sk' (S' (bk' (s' rfl rfl (i' rfl (T3 hx15) (E0.idx hx15) rfl (q' rfl (C0.nf hC rfl (C0.s hC rfl (n' (P' 4 rfl (gq [0] (L1 hx16) rfl (n' (T' rfl (lq (ih4 _ _ _ _ _ _ hh) rfl)))))))))))))
  obtain ⟨x17,hx17,hh⟩:=bs' hh
  obtain ⟨x18,hx18,hh⟩:=bs' hh
  obtain ⟨x19,hx19,hh⟩:=bs' hh
  exact ex' (p' 3 rfl (gq [0] (ih0 _ _ _ hx17) rfl (n' (p' 3 rfl (gq [0] (ih0 _ _ _ hx18) rfl (n' (P' 3 rfl (gq [0] (Wj hx19) rfl (n' (T' rfl (lq (ih1 _ _ _ _ hh) rfl)))))))))))
theorem Qs {l syntaxReport res}(hh:Y4 l syntaxReport=some res):Yk l syntaxReport res:=(Nr).1 _ _ _ hh
def Fg (p:E1):Option D0:=
 Y4 p.Decls (D0.mk 0 0 false false false)>>=fun x1=>
 P4 p.Body 1 x1>>=fun x2=>
 some x2
theorem Qx {p res}(hh:Fg p=some res):W0 C 69 [.agg (E1.cells p)] [] (Ret [.dead,.row (D0.cells res) 154] (.ref 1 0)):=by
 unfold Fg at hh
 obtain ⟨x1,hx1,hh⟩:=bs' hh
 obtain ⟨x2,hx2,hh⟩:=bs' hh
 refine W0.intro hC Tryz.func69 rfl rfl rfl (s' rfl rfl (C0.n hC rfl (e' rfl (p' 1 rfl (C0.n hC rfl (e' rfl (p' 3 rfl (gq [1] (Qs hx1) rfl (n' (p' 3 rfl (gq [1] (Wj hx2) rfl (n' (t' rfl ?_)))))))))))))
 refine re' ?_
 have hq:=oi' hh
 subst hq
 exact ⟨_,_,[.dead,.row (D0.cells x2) 154],rfl,.rfl,⟨trivial,⟨rfl,.refl _,rfl⟩,trivial⟩,rfl,rfl,rfl,rfl⟩
def Rc (syntaxReport:D0):Option Int:=
 if (bif (decide (syntaxReport.nodes > 1024)) then true else (decide (syntaxReport.depth > 12)))=true then
  some 4
 else
  if syntaxReport.badForm=true then
   some 1
  else
   if syntaxReport.badName=true then
    some 7
   else
    if syntaxReport.badNumber=true then
     some 3
    else
     some 0
theorem Au {syntaxReport res}(hh:Rc syntaxReport=some res):W0 C 70 [.ref 0 0] [.row (D0.cells syntaxReport) 154] (Ret [.row (D0.cells syntaxReport) 154] (.d (.int .i64 res))):=by
 unfold Rc at hh
 refine W0.intro hC Tryz.func70 rfl rfl rfl (t' rfl (S' (bk' (sg' 13 rfl (G' 7 rfl (a1' rfl (a1' rfl (a1' rfl (a1' rfl (po' rfl (a0' rfl (an' (n' (ci' rfl hh (fun hh=>?_) (fun hh=>?_)))))))))))))))
 ·cases hh
  exact t' rfl (re' (rq rfl))
 refine t' rfl (ci' rfl hh (fun hh=>?_) (fun hh=>?_))
 ·cases hh
  exact t' rfl (re' (rq rfl))
 refine t' rfl (ci' rfl hh (fun hh=>?_) (fun hh=>?_))
 ·cases hh
  exact t' rfl (re' (rq rfl))
 refine t' rfl (ci' rfl hh (fun hh=>?_) (fun hh=>?_))
 ·cases hh
  exact t' rfl (re' (rq rfl))
 cases hh
 exact sk' (t' rfl (re' (rq rfl)))
def Xi (p:E1):Option Int:=
 Fg p>>=fun x1=>
 Rc x1>>=fun x2=>
 some x2
theorem D10 {p res}(hh:Xi p=some res):W0 C 36 [.agg (E1.cells p)] [] (Ret [] (.d (.int .i64 res))):=by
 unfold Xi at hh
 obtain ⟨x1,hx1,hh⟩:=bs' hh
 obtain ⟨x2,hx2,hh⟩:=bs' hh
 cases hh
 exact W0.intro hC Tryz.func36 rfl rfl rfl (s' rfl rfl (C0.n hC rfl (e' rfl (p' 1 rfl (gq [] (Qx hx1) rfl (gq [2] (Au hx2) rfl (e' rfl (re' (rq rfl)))))))))
def Yi (text:Str):Option (E1×Int×Int):=
 Cg text (E1.mk [] [])>>=fun x1=>
 if (x1.2.1 != 0)=true then
  some ((E1.mk [] []),x1.1,x1.2.1)
 else
  Xi x1.2.2>>=fun x2=>
  if (x2 != 0)=true then
   some ((E1.mk [] []),0,x2)
  else
   some (x1.2.2,0,0)
theorem E10 {text res}(hh:Yi text=some res):W0 C 21 [.d (.str text)] [] (Ret [] (.tup [.agg (E1.cells res.1),.d (.int .i64 res.2.1),.d (.int .i64 res.2.2)])):=by
 unfold Yi at hh
 obtain ⟨x1,hx1,hh⟩:=bs' hh
 refine W0.intro hC Tryz.func21 rfl rfl rfl (s' rfl rfl (C0.nf hC rfl (e' rfl (s' rfl rfl (C0.nf hC rfl (n' (p' 2 rfl (gq [1] (Px hx1) rfl (e' rfl (S' (t' rfl (ci' rfl hh (fun hh=>?_) (fun hh=>?_)))))))))))))
 ·cases hh
  exact p' 3 rfl (C0.s hC rfl (e' rfl (re' (rq rfl))))
 obtain ⟨x2,hx2,hh⟩:=bs' hh
 refine sk' (S' (p' 1 rfl (cq (D10 hx2) rfl (e' rfl (t' rfl (ci' rfl hh (fun hh=>?_) (fun hh=>?_)))))))
 ·cases hh
  exact p' 2 rfl (C0.s hC rfl (e' rfl (re' (rq rfl))))
 cases hh
 exact sk' (p' 1 rfl (C0.s hC rfl (e' rfl (re' (rq rfl)))))
def Y7 (text:Str)(list:Str)(x3:Str)(x4:Str)(x5:Str)(x6:Str)(x7:Str)(v58:Int):Option (E1×Int):=
 if (decide (v58 < (([(P1.mk [60,65,62] x3),(P1.mk [60,66,62] x4),(P1.mk [60,84,62] x5),(P1.mk [60,97,62] x6),(P1.mk [60,98,62] x7),(P1.mk [60,78,62] list)]).length:Int)))=true then
  idx [(P1.mk [60,65,62] x3),(P1.mk [60,66,62] x4),(P1.mk [60,84,62] x5),(P1.mk [60,97,62] x6),(P1.mk [60,98,62] x7),(P1.mk [60,78,62] list)] v58>>=fun x8=>
  Kq text x8.x0 x8.x1>>=fun x9=>
  Y7 x9 list x3 x4 x5 x6 x7 (IntKind.i64.wrap (v58+1))
 else
  Yi text>>=fun x10=>
  if (x10.2.2 != 0)=true then
   some ((E1.mk [] []),x10.2.2)
  else
   some (x10.1,0)
 partial_fixpoint
abbrev Rp (text:Str)(list:Str)(x3:Str)(x4:Str)(x5:Str)(x6:Str)(x7:Str)(v58:Int)(res:E1×Int):Prop:=LM C 80 0 Tryz.f7 [1,1,1,1,1,1,0,1,4] [(6,.ref 0 0),(11,.d (.str text)),(56,.full (P1.rows [(P1.mk [60,65,62] x3),(P1.mk [60,66,62] x4),(P1.mk [60,84,62] x5),(P1.mk [60,97,62] x6),(P1.mk [60,98,62] x7),(P1.mk [60,78,62] list)])),(57,.d (.int .i64 (([(P1.mk [60,65,62] x3),(P1.mk [60,66,62] x4),(P1.mk [60,84,62] x5),(P1.mk [60,97,62] x6),(P1.mk [60,98,62] x7),(P1.mk [60,78,62] list)]).length:Int))),(58,.d (.int .i64 v58))] [.row [.full (E0.rows []),.full (J0.rows [])] 26] (Ret [] (.tup [.agg (E1.cells res.1),.d (.int .i64 res.2)]))
theorem Rv (list:Str)(x3:Str)(x4:Str)(x5:Str)(x6:Str)(x7:Str):(∀ text v58 res,Y7 text list x3 x4 x5 x6 x7 v58=some res→Rp text list x3 x4 x5 x6 x7 v58 res):=by
 refine Y7.partial_correctness list x3 x4 x5 x6 x7 _ ?_
 ·intro g0 ih0 text v58 res hh
  refine F1.unroll (t' rfl (S' (ci' rfl hh (fun hh=>?_) (fun hh=>?_))))
  ·obtain ⟨x8,hx8,hh⟩:=bs' hh
   obtain ⟨x9,hx9,hh⟩:=bs' hh
   refine sk' (S' (bk' (s' rfl rfl (i' rfl (T3 hx8) (P1.idx hx8) rfl (q' rfl (C0.n hC rfl (C0.s hC rfl (n' (P' 1 rfl (qc' rfl (by decide) (q' rfl (qc' rfl (by decide) (q' rfl ?_)))))))))))))
   exact cq (Sz hx9) rfl (e' rfl (T' rfl (lq (ih0 _ _ _ hh) rfl)))
  obtain ⟨x10,hx10,hh⟩:=bs' hh
  refine ex' (p' 1 rfl (cq (E10 hx10) rfl (o' 4 rfl (C0.nf hC rfl (C0.s hC rfl (e' rfl (S' (t' rfl (ci' rfl hh (fun hh=>?_) (fun hh=>?_))))))))))
  ·cases hh
   exact p' 2 rfl (C0.s hC rfl (e' rfl (re' (rq rfl))))
  cases hh
  exact sk' (p' 1 rfl (C0.s hC rfl (e' rfl (re' (rq rfl)))))
theorem Tw {text list x3 x4 x5 x6 x7 v58 res}(hh:Y7 text list x3 x4 x5 x6 x7 v58=some res):Rp text list x3 x4 x5 x6 x7 v58 res:=(Rv list x3 x4 x5 x6 x7) _ _ _ hh
def Dd (a:Int)(b:Int)(x1:K0×Int)(list:Str):Option (E1×Int):=
 Ol (IntKind.i64.wrap (a - 1))>>=fun x3=>
 Ol (IntKind.i64.wrap (b - 1))>>=fun x4=>
 Ol (IntKind.i64.wrap (a * b))>>=fun x5=>
 Ol a>>=fun x6=>
 Ol b>>=fun x7=>
 Y7 x1.1.text list x3 x4 x5 x6 x7 0
theorem Xo {a b x1 list res}(hh:Dd a b x1 list=some res):JM C 80 0 Tryz.f7 [1,1,1,1,1] [(1,.d (.int .i64 a)),(2,.d (.int .i64 b)),(6,.ref 0 0),(8,.ref 1 0),(10,.d (.str list))] [.row [.full (E0.rows []),.full (J0.rows [])] 26,.row (K0.cells x1.1) 46] (Ret [] (.tup [.agg (E1.cells res.1),.d (.int .i64 res.2)])):=by
 unfold Dd at hh
 obtain ⟨x3,hx3,hh⟩:=bs' hh
 obtain ⟨x4,hx4,hh⟩:=bs' hh
 obtain ⟨x5,hx5,hh⟩:=bs' hh
 obtain ⟨x6,hx6,hh⟩:=bs' hh
 obtain ⟨x7,hx7,hh⟩:=bs' hh
 refine t' rfl (S' (p' 2 rfl (cq (Sk hx3) rfl (o' 3 rfl (cq (Sk hx4) rfl (o' 4 rfl (cq (Sk hx5) rfl (o' 2 rfl (cq (Sk hx6) rfl (o' 2 rfl (cq (Sk hx7) rfl (o' 3 rfl ?_))))))))))))
 exact C0.be hC rfl (P1.rows_map [(P1.mk [60,65,62] x3),(P1.mk [60,66,62] x4),(P1.mk [60,84,62] x5),(P1.mk [60,97,62] x6),(P1.mk [60,98,62] x7),(P1.mk [60,78,62] list)]).symm (qe' rfl trivial (P1.lenA _) (e' rfl (bk' (fq (Tw hh) rfl))))
def Zi (family:Str)(a:Int)(b:Int):Option (E1×Int):=
 B7 family a b>>=fun x1=>
 if (x1.2 != 0)=true then
  some ((E1.mk [] []),x1.2)
 else
  if (x1.1.name == [115,101,97,114,99,104])=true then
   Uh a b>>=fun x2=>
   Dd a b x1 x2
  else
   Dd a b x1 []
theorem F10 {family a b res}(hh:Zi family a b=some res):W0 C 7 [.d (.str family),.d (.int .i64 a),.d (.int .i64 b)] [] (Ret [] (.tup [.agg (E1.cells res.1),.d (.int .i64 res.2)])):=by
 unfold Zi at hh
 obtain ⟨x1,hx1,hh⟩:=bs' hh
 refine W0.intro hC Tryz.func7 rfl rfl rfl (s' rfl rfl (C0.nf hC rfl (e' rfl (p' 3 rfl (cq (Yr hx1) rfl (o' 3 rfl (C0.n hC rfl (C0.s hC rfl (e' rfl (S' (t' rfl (ci' rfl hh (fun hh=>?_) (fun hh=>?_)))))))))))))
 ·cases hh
  exact p' 2 rfl (C0.s hC rfl (e' rfl (re' (rq rfl))))
 refine sk' (t' rfl (S' (t' rfl (ci' rfl hh (fun hh=>?_) (fun hh=>?_)))))
 ·obtain ⟨x2,hx2,hh⟩:=bs' hh
  exact P' 2 rfl (cq (My hx2) rfl (e' rfl (eq' (Xo hh) rfl)))
 exact sk' (eq' (Xo hh) rfl)
def Rb:Option Bool:=
 V5 [100,105,103,105,116,115] 3 4>>=fun x1=>
 V5 [115,101,97,114,99,104] 10 3>>=fun x2=>
 Zi [112,97,114,105,116,121] 4 0>>=fun x3=>
 some (bif (bif (bif (bif (bif (bif (bif (bif (x1.2.2 == 0) then (x2.2.2 == 0) else false) then (x3.2 == 0) else false) then (x1.1 == 4) else false) then (x1.2.1 == 2) else false) then (x2.1 == 3) else false) then (x2.2.1 == 1) else false) then (((x3.1.Decls).length:Int) == 1) else false) then (((x3.1.Body).length:Int) == 1) else false)
theorem C11 {res}(hh:Rb=some res):W0 C 6 [] [] (Ret [] (.d (.bool res))):=by
 unfold Rb at hh
 obtain ⟨x1,hx1,hh⟩:=bs' hh
 obtain ⟨x2,hx2,hh⟩:=bs' hh
 obtain ⟨x3,hx3,hh⟩:=bs' hh
 cases hh
 refine W0.intro hC Tryz.func6 rfl rfl rfl (t' rfl (s' rfl rfl (cq (Gk hx1) rfl (e' rfl (s' rfl rfl (cq (Gk hx2) rfl (e' rfl (s' rfl rfl (cq (F10 hx3) rfl (o' 3 rfl (C0.nf hC rfl (C0.s hC rfl (e' rfl ?_)))))))))))))
 refine sg' 39 rfl (G' 4 rfl (a1' rfl (pa' rfl (G' 2 rfl (a1' rfl (pa' rfl (G' 2 rfl (a1' rfl (pa' rfl (G' 2 rfl (a1' rfl (pa' rfl (G' 2 rfl ?_)))))))))))))
 refine a1' rfl (pa' rfl (G' 2 rfl (a1' rfl (pa' rfl (G' 2 rfl (a1' rfl (AG.qe hC rfl (fun hg=>⟨⟨hg,trivial⟩,trivial⟩) (E0.lenA _) (a1' rfl (pa' rfl (G' 2 rfl (a1' rfl (AG.qe hC rfl (fun hg=>⟨⟨hg,trivial⟩,trivial⟩) (J0.lenA _) (a1' rfl ?_)))))))))))))
 exact pa' rfl (a0' rfl (an' (n' (re' (rq rfl)))))
def V4 (a:Int)(b:Int)(lowA:Int)(highA:Int)(lowB:Int)(highB:Int):Option Int:=
 if (bif (bif (bif (decide (a < lowA)) then true else (decide (a > highA))) then true else (decide (b < lowB))) then true else (decide (b > highB)))=true then
  some 3
 else
  some 0
theorem N5 {a b lowA highA lowB highB res}(hh:V4 a b lowA highA lowB highB=some res):JM C 51 0 Tryz.f8 [1,1,1] [(1,.d (.int .i64 a)),(2,.d (.int .i64 b)),(7,.d (.int .i64 lowA)),(8,.d (.int .i64 highA)),(9,.d (.int .i64 lowB)),(10,.d (.int .i64 highB))] [] (Ret [] (.d (.int .i64 res))):=by
 unfold V4 at hh
 refine S' (sg' 18 rfl (G' 6 rfl (a2' rfl (po' rfl (G' 3 rfl (a2' rfl (po' rfl (G' 3 rfl (a2' rfl (po' rfl (an' (n' (ci' rfl hh (fun hh=>?_) (fun hh=>?_))))))))))))))
 ·cases hh
  exact t' rfl (re' (rq rfl))
 cases hh
 exact sk' (t' rfl (re' (rq rfl)))
def Ff (family:Str)(a:Int)(b:Int)(v12:Bool):Option Int:=
 if v12=true then
  V4 a b 2 64 0 0
 else
  if (family == [100,105,103,105,116,115])=true then
   V4 a b 1 4 2 4
  else
   if (family == [98,105,116,115])=true then
    V4 a b 1 8 0 0
   else
    if (family == [100,105,99,101])=true then
     V4 a b 1 3 2 6
    else
     if (family == [112,111,119,101,114])=true then
      V4 a b 1 6 0 0
     else
      if (family == [116,104,114,101,115,104,111,108,100])=true then
       V4 a b 2 64 1 (IntKind.i64.wrap (a - 1))
      else
       if (family == [109,97,115,107,101,100])=true then
        V4 a b 1 16 0 0
       else
        if (family == [115,101,97,114,99,104])=true then
         V4 a b 1 64 1 (min a 8)
        else
         some 7
theorem Yo {family a b v12 res}(hh:Ff family a b v12=some res):JM C 51 0 Tryz.f8 [1,1,0,1,4,1] [(1,.d (.int .i64 a)),(2,.d (.int .i64 b)),(9,.d (.int .i64 0)),(10,.d (.int .i64 0)),(11,.d (.str family)),(12,.d (.bool v12))] [] (Ret [] (.d (.int .i64 res))):=by
 unfold Ff at hh
 refine ci' rfl hh (fun hh=>?_) (fun hh=>?_)
 ·exact T' rfl (eq' (N5 hh) rfl)
 refine t' rfl (ci' rfl hh (fun hh=>?_) (fun hh=>?_))
 ·exact T' rfl (eq' (N5 hh) rfl)
 refine t' rfl (ci' rfl hh (fun hh=>?_) (fun hh=>?_))
 ·exact T' rfl (eq' (N5 hh) rfl)
 refine t' rfl (ci' rfl hh (fun hh=>?_) (fun hh=>?_))
 ·exact T' rfl (eq' (N5 hh) rfl)
 refine t' rfl (ci' rfl hh (fun hh=>?_) (fun hh=>?_))
 ·exact T' rfl (eq' (N5 hh) rfl)
 refine t' rfl (ci' rfl hh (fun hh=>?_) (fun hh=>?_))
 ·exact T' rfl (eq' (N5 hh) rfl)
 refine t' rfl (ci' rfl hh (fun hh=>?_) (fun hh=>?_))
 ·exact T' rfl (eq' (N5 hh) rfl)
 refine t' rfl (ci' rfl hh (fun hh=>?_) (fun hh=>?_))
 ·exact T' rfl (eq' (N5 hh) rfl)
 cases hh
 exact t' rfl (re' (rq rfl))
def Gg (family:Str)(a:Int)(b:Int):Option Int:=
 if (family == [112,97,115,115,119,111,114,100])=true then
  Ff family a b (family == [112,97,115,115,119,111,114,100])
 else
  Ff family a b (family == [112,97,114,105,116,121])
theorem G10 {family a b res}(hh:Gg family a b=some res):W0 C 8 [.d (.str family),.d (.int .i64 a),.d (.int .i64 b)] [] (Ret [] (.d (.int .i64 res))):=by
 unfold Gg at hh
 refine W0.intro hC Tryz.func8 rfl rfl rfl (t' rfl (t' rfl (S' (t' rfl (bk' (S' (t' rfl (ci' rfl hh (fun hh=>?_) (fun hh=>?_)))))))))
 ·exact sk' (eq' (Yo hh) rfl)
 exact T' rfl (eq' (Yo hh) rfl)
def He (family:Str)(a:Int)(b:Int)(v9:Bool):Option (Int×Int):=
 if v9=true then
  some (2,2)
 else
  if (family == [100,105,103,105,116,115])=true then
   some ((IntKind.i64.wrap (a+1)),2)
  else
   if (family == [98,105,116,115])=true then
    if (decide (0≤a))=true then
     if (decide (0≤a))=true then
      some ((IntKind.i64.wrap (1 * 2 ^ (min a.toNat 64))),(IntKind.i64.wrap (1 * 2 ^ (min a.toNat 64))))
     else none
    else none
   else
    if (family == [100,105,99,101])=true then
     some ((IntKind.i64.wrap ((IntKind.i64.wrap (a * (IntKind.i64.wrap (b - 1))))+1)),(IntKind.i64.wrap ((IntKind.i64.wrap (a * (IntKind.i64.wrap (b - 1))))+1)))
    else
     if (family == [112,111,119,101,114])=true then
      some ((IntKind.i64.wrap (a+1)),1)
     else
      if (family == [109,97,115,107,101,100])=true then
       some (a,a)
      else
       some (b,1)
theorem Ei {family a b v9 res}(hh:He family a b v9=some res):JM C 44 0 Tryz.f12 [1,0,1,4,1] [(1,.d (.int .i64 a)),(2,.d (.int .i64 b)),(8,.d (.str family)),(9,.d (.bool v9))] [] (Ret [] (.tup [.d (.int .i64 res.1),.d (.int .i64 res.2)])):=by
 unfold He at hh
 refine ci' rfl hh (fun hh=>?_) (fun hh=>?_)
 ·cases hh
  exact t' rfl (re' (rq rfl))
 refine t' rfl (ci' rfl hh (fun hh=>?_) (fun hh=>?_))
 ·cases hh
  exact t' rfl (re' (rq rfl))
 refine t' rfl (ci' rfl hh (fun hh=>?_) (fun hh=>?_))
 ·obtain ⟨c7,hh⟩:=R4 hh
  obtain ⟨c8,hh⟩:=R4 hh
  cases hh
  exact S' (AEx.draw hC 6 rfl rfl rfl (Q' rfl (AQ.q hC rfl c7 (Q' rfl (AQ.q hC rfl c8 (E' rfl (n' (re' (rq rfl)))))))))
 refine t' rfl (ci' rfl hh (fun hh=>?_) (fun hh=>?_))
 ·cases hh
  exact t' rfl (re' (rq rfl))
 refine t' rfl (ci' rfl hh (fun hh=>?_) (fun hh=>?_))
 ·cases hh
  exact t' rfl (re' (rq rfl))
 refine t' rfl (ci' rfl hh (fun hh=>?_) (fun hh=>?_))
 ·cases hh
  exact t' rfl (re' (rq rfl))
 cases hh
 exact sk' (t' rfl (re' (rq rfl)))
def Ak (family:Str)(a:Int)(b:Int):Option (Int×Int):=
 if (family == [112,97,115,115,119,111,114,100])=true then
  He family a b (family == [112,97,115,115,119,111,114,100])
 else
  if (family == [112,97,114,105,116,121])=true then
   He family a b (family == [112,97,114,105,116,121])
  else
   He family a b (family == [116,104,114,101,115,104,111,108,100])
theorem Qy {family a b res}(hh:Ak family a b=some res):W0 C 12 [.d (.str family),.d (.int .i64 a),.d (.int .i64 b)] [] (Ret [] (.tup [.d (.int .i64 res.1),.d (.int .i64 res.2)])):=by
 unfold Ak at hh
 refine W0.intro hC Tryz.func12 rfl rfl rfl (t' rfl (S' (t' rfl (bk' (S' (t' rfl (ci' rfl hh (fun hh=>?_) (fun hh=>?_))))))))
 ·exact sk' (eq' (Ei hh) rfl)
 refine t' rfl (ci' rfl hh (fun hh=>?_) (fun hh=>?_))
 ·exact sk' (eq' (Ei hh) rfl)
 exact T' rfl (eq' (Ei hh) rfl)
def J7 (family:Str)(a:Int)(b:Int):Option Bool:=
 Rb>>=fun x1=>
 if (!x1)=true then
  some false
 else
  if (decide (((family).length:Int) > 100))=true then
   some true
  else
   V5 family a b>>=fun x2=>
   Gg family a b>>=fun x3=>
   if (x3 != 0)=true then
    some (bif (bif (x2.2.2 == x3) then (x2.1 == 0) else false) then (x2.2.1 == 0) else false)
   else
    Ak family a b>>=fun x4=>
    some (bif (bif (x2.2.2 == 0) then (x2.1 == x4.1) else false) then (x2.2.1 == x4.2) else false)
theorem Bu {family a b res}(hh:J7 family a b=some res):W0 C 4 [.d (.str family),.d (.int .i64 a),.d (.int .i64 b)] [] (Ret [] (.d (.bool res))):=by
 unfold J7 at hh
 obtain ⟨x1,hx1,hh⟩:=bs' hh
 refine W0.intro hC Tryz.func4 rfl rfl rfl (t' rfl (S' (s' rfl rfl (cq (C11 hx1) rfl (e' rfl (ci' rfl hh (fun hh=>?_) (fun hh=>?_)))))))
 ·cases hh
  exact t' rfl (re' (rq rfl))
 refine sk' (S' (t' rfl (ci' rfl hh (fun hh=>?_) (fun hh=>?_))))
 ·cases hh
  exact t' rfl (re' (rq rfl))
 obtain ⟨x2,hx2,hh⟩:=bs' hh
 obtain ⟨x3,hx3,hh⟩:=bs' hh
 refine sk' (p' 3 rfl (cq (Gk hx2) rfl (e' rfl (S' (p' 3 rfl (cq (G10 hx3) rfl (e' rfl (t' rfl (ci' rfl hh (fun hh=>?_) (fun hh=>?_))))))))))
 ·cases hh
  exact sg' 12 rfl (G' 5 rfl (a1' rfl (pa' rfl (G' 2 rfl (a1' rfl (pa' rfl (a0' rfl (an' (n' (re' (rq rfl)))))))))))
 obtain ⟨x4,hx4,hh⟩:=bs' hh
 cases hh
 refine sk' (p' 3 rfl (cq (Qy hx4) rfl (e' rfl (sg' 13 rfl (G' 5 rfl (a2' rfl (pa' rfl (G' 3 rfl (a2' rfl (pa' rfl (a0' rfl (an' (n' ?_)))))))))))))
 exact re' (rq rfl)
def Aj (fu:Nat):Option (List K0):=
 some [(K0.mk [112,97,115,115,119,111,114,100] 2 64 (some 44) [115,101,99,114,101,116,32,112,105,110,58,32,105,110,116,91,48,46,46,60,65,62,93,59,10,112,117,98,108,105,99,32,103,117,101,115,115,58,32,105,110,116,91,48,46,46,60,65,62,93,59,10,98,101,103,105,110,32,111,117,116,112,117,116,32,112,105,110,32,61,61,32,103,117,101,115,115,59,32,101,110,100] (some 45)),(K0.mk [100,105,103,105,116,115] 1 4 (some 46) [115,101,99,114,101,116,32,112,105,110,58,32,97,114,114,97,121,32,60,97,62,32,111,102,32,105,110,116,91,48,46,46,60,66,62,93,59,10,112,117,98,108,105,99,32,103,117,101,115,115,58,32,97,114,114,97,121,32,60,97,62,32,111,102,32,105,110,116,91,48,46,46,60,66,62,93,59,10,118,97,114,32,105,58,32,105,110,116,91,48,46,46,60,97,62,93,59,10,118,97,114,32,111,107,58,32,98,111,111,108,32,61,32,116,114,117,101,59,10,98,101,103,105,110,32,119,104,105,108,101,32,111,107,32,38,38,32,105,32,60,32,60,97,62,32,108,105,109,105,116,32,60,97,62,32,123,32,105,102,32,112,105,110,91,105,93,32,61,61,32,103,117,101,115,115,91,105,93,32,123,32,105,32,61,32,105,32,43,32,49,59,32,125,32,101,108,115,101,32,123,32,111,107,32,61,32,102,97,108,115,101,59,32,125,32,125,32,111,117,116,112,117,116,32,111,107,59,32,101,110,100] (some 47)),(K0.mk [98,105,116,115] 1 8 (some 44) [115,101,99,114,101,116,32,115,58,32,97,114,114,97,121,32,60,97,62,32,111,102,32,98,111,111,108,59,10,98,101,103,105,110,32,102,111,114,32,105,32,61,32,48,32,116,111,32,60,65,62,32,123,32,111,117,116,112,117,116,32,115,91,105,93,59,32,125,32,101,110,100] (some 48)),(K0.mk [112,97,114,105,116,121] 2 64 (some 44) [115,101,99,114,101,116,32,115,58,32,105,110,116,91,48,46,46,60,65,62,93,59,10,98,101,103,105,110,32,111,117,116,112,117,116,32,115,32,37,32,50,59,32,101,110,100] (some 45)),(K0.mk [100,105,99,101] 1 3 (some 49) [115,101,99,114,101,116,32,100,58,32,97,114,114,97,121,32,60,97,62,32,111,102,32,105,110,116,91,49,46,46,60,98,62,93,59,10,118,97,114,32,116,58,32,105,110,116,91,48,46,46,60,84,62,93,59,10,98,101,103,105,110,32,102,111,114,32,105,32,61,32,48,32,116,111,32,60,65,62,32,123,32,116,32,61,32,116,32,43,32,100,91,105,93,59,32,125,32,111,117,116,112,117,116,32,116,59,32,101,110,100] (some 50)),(K0.mk [112,111,119,101,114] 1 6 (some 44) [115,101,99,114,101,116,32,101,58,32,97,114,114,97,121,32,60,97,62,32,111,102,32,98,111,111,108,59,10,118,97,114,32,120,58,32,105,110,116,91,48,46,46,49,50,93,32,61,32,49,59,10,98,101,103,105,110,32,102,111,114,32,105,32,61,32,48,32,116,111,32,60,65,62,32,123,32,120,32,61,32,120,32,42,32,120,32,37,32,49,51,59,32,105,102,32,101,91,105,93,32,123,32,120,32,61,32,120,32,42,32,50,32,37,32,49,51,59,32,125,32,125,32,101,110,100] (some 51)),(K0.mk [116,104,114,101,115,104,111,108,100] 2 64 (some 52) [115,101,99,114,101,116,32,115,58,32,105,110,116,91,48,46,46,60,65,62,93,59,10,98,101,103,105,110,32,111,117,116,112,117,116,32,115,32,62,61,32,60,98,62,59,32,101,110,100] (some 45)),(K0.mk [109,97,115,107,101,100] 1 16 (some 44) [115,101,99,114,101,116,32,115,58,32,105,110,116,91,48,46,46,60,65,62,93,59,10,114,97,110,100,111,109,32,114,58,32,105,110,116,91,48,46,46,60,65,62,93,59,10,98,101,103,105,110,32,111,117,116,112,117,116,32,40,115,32,43,32,114,41,32,37,32,60,97,62,59,32,101,110,100] (some 53)),(K0.mk [115,101,97,114,99,104] 1 64 (some 54) [115,101,99,114,101,116,32,115,58,32,105,110,116,91,48,46,46,60,65,62,93,59,10,118,97,114,32,105,58,32,105,110,116,91,48,46,46,60,97,62,93,59,10,98,101,103,105,110,32,119,104,105,108,101,32,105,32,60,32,115,32,108,105,109,105,116,32,60,97,62,32,123,32,105,32,61,32,105,32,43,32,49,59,32,125,32,115,101,116,116,108,101,32,60,78,62,59,32,101,110,100] (some 55))]
theorem Sv (fu:Nat):Le (Aj fu ) (V8 ):=by
 unfold Aj V8
 repeat (with_reducible first | exact Le.rfl | exact N0 _ | refine Le.bind ?_ (fun _=>?_) | refine Le.ite ?_ ?_ | (rename_i x; cases x))
def Ik (fu:Nat)(f:K0)(s:Str):Option Bool:=
 some (f.name == s)
theorem Rx (fu:Nat)(f:K0)(s:Str):Le (Ik fu f s) (Zd f s):=by
 unfold Ik Zd
 repeat (with_reducible first | exact Le.rfl | exact N0 _ | refine Le.bind ?_ (fun _=>?_) | refine Le.ite ?_ ?_ | (rename_i x; cases x))
def V2:Nat→(List K0)→Str→Int→Option Int
 | 0,_,_,_=>none
 | fu+1,s,s1,v8=>
  if (decide (v8 < ((s).length:Int)))=true then
   idx s v8>>=fun x1=>
   Ik fu x1 s1>>=fun x2=>
   if x2=true then
    some v8
   else
    V2 fu s s1 (IntKind.i64.wrap (v8+1))
  else
   some (-1)
theorem Zc (fu:Nat):(∀ (s:List K0) (s1:Str) (v8:Int),Le (V2 fu s s1 v8) (J1 s s1 v8)):=by
 induction fu with
 | zero=>exact fun _ _ _=>Le.none
 | succ fu ih=>
  have ih0:=ih
  refine fun s s1 v8=>?_
  ·rw [V2,J1]
   repeat (with_reducible first | exact Le.rfl | exact ih0 _ _ _ | exact Rx fu _ _ | exact N0 _ | refine Le.bind ?_ (fun _=>?_) | refine Le.ite ?_ ?_ | (rename_i x; cases x))
theorem Id (fu:Nat)(s:List K0)(s1:Str)(v8:Int):Le (V2 fu s s1 v8) (J1 s s1 v8):=(Zc fu) s s1 v8
def W4 (fu:Nat)(s:List K0)(s1:Str):Option Int:=
 V2 fu s s1 0
theorem Ce (fu:Nat)(s:List K0)(s1:Str):Le (W4 fu s s1) (S2 s s1):=by
 unfold W4 S2
 repeat (with_reducible first | exact Le.rfl | exact Id fu _ _ _ | exact N0 _ | refine Le.bind ?_ (fun _=>?_) | refine Le.ite ?_ ?_ | (rename_i x; cases x))
def Cn (fu:Nat)(a:Int):Option (Int×Int):=
 some (0,0)
theorem H10 (fu:Nat)(a:Int):Le (Cn fu a) (Ni a):=by
 unfold Cn Ni
 repeat (with_reducible first | exact Le.rfl | exact N0 _ | refine Le.bind ?_ (fun _=>?_) | refine Le.ite ?_ ?_ | (rename_i x; cases x))
def Fh (fu:Nat)(a:Int):Option (Int×Int):=
 some (2,4)
theorem Cu (fu:Nat)(a:Int):Le (Fh fu a) (Bc a):=by
 unfold Fh Bc
 repeat (with_reducible first | exact Le.rfl | exact N0 _ | refine Le.bind ?_ (fun _=>?_) | refine Le.ite ?_ ?_ | (rename_i x; cases x))
def Gh (fu:Nat)(a:Int):Option (Int×Int):=
 some (2,6)
theorem Du (fu:Nat)(a:Int):Le (Gh fu a) (Cc a):=by
 unfold Gh Cc
 repeat (with_reducible first | exact Le.rfl | exact N0 _ | refine Le.bind ?_ (fun _=>?_) | refine Le.ite ?_ ?_ | (rename_i x; cases x))
def Hh (fu:Nat)(a:Int):Option (Int×Int):=
 some (1,(IntKind.i64.wrap (a - 1)))
theorem Eu (fu:Nat)(a:Int):Le (Hh fu a) (Dc a):=by
 unfold Hh Dc
 repeat (with_reducible first | exact Le.rfl | exact N0 _ | refine Le.bind ?_ (fun _=>?_) | refine Le.ite ?_ ?_ | (rename_i x; cases x))
def Ih (fu:Nat)(a:Int):Option (Int×Int):=
 some (1,(min a 8))
theorem Fu (fu:Nat)(a:Int):Le (Ih fu a) (Ec a):=by
 unfold Ih Ec
 repeat (with_reducible first | exact Le.rfl | exact N0 _ | refine Le.bind ?_ (fun _=>?_) | refine Le.ite ?_ ?_ | (rename_i x; cases x))
def D11 (fu:Nat)(f:Option Nat)(a0:Int):Option (Int×Int):=
 if (f == (some 44))=true then
  Cn fu a0>>=fun x1=>
  some x1
 else
  if (f == (some 46))=true then
   Fh fu a0>>=fun x1=>
   some x1
  else
   if (f == (some 49))=true then
    Gh fu a0>>=fun x1=>
    some x1
   else
    if (f == (some 52))=true then
     Hh fu a0>>=fun x1=>
     some x1
    else
     if (f == (some 54))=true then
      Ih fu a0>>=fun x1=>
      some x1
     else
      none
theorem F18 (fu:Nat)(f:Option Nat)(a0:Int):Le (D11 fu f a0) (Aq f a0):=by
 unfold D11 Aq
 repeat (with_reducible first | exact Le.rfl | exact H10 fu _ | exact Cu fu _ | exact Du fu _ | exact Eu fu _ | exact Fu fu _ | exact N0 _ | refine Le.bind ?_ (fun _=>?_) | refine Le.ite ?_ ?_ | (rename_i x; cases x))
def Ij (fu:Nat)(name:Str)(a:Int)(b:Int):Option (K0×Int):=
 Aj fu>>=fun x1=>
 W4 fu x1 name>>=fun x2=>
 if (decide (x2 < 0))=true then
  some ((K0.mk [] 0 0 none [] none),7)
 else
  idx x1 x2>>=fun x3=>
  if (bif (decide (a < x3.low)) then true else (decide (a > x3.high)))=true then
   some ((K0.mk [] 0 0 none [] none),3)
  else
   D11 fu x3.second a>>=fun x4=>
   if (bif (decide (b < x4.1)) then true else (decide (b > x4.2)))=true then
    some ((K0.mk [] 0 0 none [] none),3)
   else
    some (x3,0)
theorem As (fu:Nat)(name:Str)(a:Int)(b:Int):Le (Ij fu name a b) (B7 name a b):=by
 unfold Ij B7
 repeat (with_reducible first | exact Le.rfl | exact Sv fu | exact Ce fu _ _ | exact F18 fu _ _ | exact N0 _ | refine Le.bind ?_ (fun _=>?_) | refine Le.ite ?_ ?_ | (rename_i x; cases x))
def Ip (fu:Nat)(a:Int)(b:Int):Option (Int×Int):=
 some (2,2)
theorem E11 (fu:Nat)(a:Int)(b:Int):Le (Ip fu a b) (Tj a b):=by
 unfold Ip Tj
 repeat (with_reducible first | exact Le.rfl | exact N0 _ | refine Le.bind ?_ (fun _=>?_) | refine Le.ite ?_ ?_ | (rename_i x; cases x))
def Jh (fu:Nat)(a:Int)(b:Int):Option (Int×Int):=
 some ((IntKind.i64.wrap (a+1)),2)
theorem Gu (fu:Nat)(a:Int)(b:Int):Le (Jh fu a b) (Fc a b):=by
 unfold Jh Fc
 repeat (with_reducible first | exact Le.rfl | exact N0 _ | refine Le.bind ?_ (fun _=>?_) | refine Le.ite ?_ ?_ | (rename_i x; cases x))
def Kh (fu:Nat)(a:Int)(b:Int):Option (Int×Int):=
 if (decide (0≤a))=true then
  if (decide (0≤a))=true then
   some ((IntKind.i64.wrap (1 * 2 ^ (min a.toNat 64))),(IntKind.i64.wrap (1 * 2 ^ (min a.toNat 64))))
  else none
 else none
theorem Hu (fu:Nat)(a:Int)(b:Int):Le (Kh fu a b) (Gc a b):=by
 unfold Kh Gc
 repeat (with_reducible first | exact Le.rfl | exact N0 _ | refine Le.bind ?_ (fun _=>?_) | refine Le.ite ?_ ?_ | (rename_i x; cases x))
def Dn (fu:Nat)(a:Int)(b:Int):Option (Int×Int):=
 some ((IntKind.i64.wrap ((IntKind.i64.wrap (a * (IntKind.i64.wrap (b - 1))))+1)),(IntKind.i64.wrap ((IntKind.i64.wrap (a * (IntKind.i64.wrap (b - 1))))+1)))
theorem I10 (fu:Nat)(a:Int)(b:Int):Le (Dn fu a b) (Oi a b):=by
 unfold Dn Oi
 repeat (with_reducible first | exact Le.rfl | exact N0 _ | refine Le.bind ?_ (fun _=>?_) | refine Le.ite ?_ ?_ | (rename_i x; cases x))
def Lh (fu:Nat)(a:Int)(b:Int):Option (Int×Int):=
 some ((IntKind.i64.wrap (a+1)),1)
theorem Iu (fu:Nat)(a:Int)(b:Int):Le (Lh fu a b) (Hc a b):=by
 unfold Lh Hc
 repeat (with_reducible first | exact Le.rfl | exact N0 _ | refine Le.bind ?_ (fun _=>?_) | refine Le.ite ?_ ?_ | (rename_i x; cases x))
def Mh (fu:Nat)(a:Int)(b:Int):Option (Int×Int):=
 some (a,a)
theorem Ju (fu:Nat)(a:Int)(b:Int):Le (Mh fu a b) (Ic a b):=by
 unfold Mh Ic
 repeat (with_reducible first | exact Le.rfl | exact N0 _ | refine Le.bind ?_ (fun _=>?_) | refine Le.ite ?_ ?_ | (rename_i x; cases x))
def Nh (fu:Nat)(a:Int)(b:Int):Option (Int×Int):=
 some (b,1)
theorem Ku (fu:Nat)(a:Int)(b:Int):Le (Nh fu a b) (Jc a b):=by
 unfold Nh Jc
 repeat (with_reducible first | exact Le.rfl | exact N0 _ | refine Le.bind ?_ (fun _=>?_) | refine Le.ite ?_ ?_ | (rename_i x; cases x))
def F11 (fu:Nat)(f:Option Nat)(a0:Int)(a1:Int):Option (Int×Int):=
 if (f == (some 45))=true then
  Ip fu a0 a1>>=fun x1=>
  some x1
 else
  if (f == (some 47))=true then
   Jh fu a0 a1>>=fun x1=>
   some x1
  else
   if (f == (some 48))=true then
    Kh fu a0 a1>>=fun x1=>
    some x1
   else
    if (f == (some 50))=true then
     Dn fu a0 a1>>=fun x1=>
     some x1
    else
     if (f == (some 51))=true then
      Lh fu a0 a1>>=fun x1=>
      some x1
     else
      if (f == (some 53))=true then
       Mh fu a0 a1>>=fun x1=>
       some x1
      else
       if (f == (some 55))=true then
        Nh fu a0 a1>>=fun x1=>
        some x1
       else
        none
theorem G18 (fu:Nat)(f:Option Nat)(a0:Int)(a1:Int):Le (F11 fu f a0 a1) (Wu f a0 a1):=by
 unfold F11 Wu
 repeat (with_reducible first | exact Le.rfl | exact E11 fu _ _ | exact Gu fu _ _ | exact Hu fu _ _ | exact I10 fu _ _ | exact Iu fu _ _ | exact Ju fu _ _ | exact Ku fu _ _ | exact N0 _ | refine Le.bind ?_ (fun _=>?_) | refine Le.ite ?_ ?_ | (rename_i x; cases x))
def Gi (fu:Nat)(family:Str)(a:Int)(b:Int):Option (Int×Int×Int):=
 Ij fu family a b>>=fun x1=>
 if (x1.2 != 0)=true then
  some (0,0,x1.2)
 else
  F11 fu x1.1.known a b>>=fun x2=>
  some (x2.1,x2.2,0)
theorem Ry (fu:Nat)(family:Str)(a:Int)(b:Int):Le (Gi fu family a b) (V5 family a b):=by
 unfold Gi V5
 repeat (with_reducible first | exact Le.rfl | exact As fu _ _ _ | exact G18 fu _ _ _ | exact N0 _ | refine Le.bind ?_ (fun _=>?_) | refine Le.ite ?_ ?_ | (rename_i x; cases x))
def Sc:Nat→Int→Int→(List Str)→Int→Option Str
 | 0,_,_,_,_=>none
 | fu+1,a,b,l,j=>
  if (decide (j≤b))=true then
   if (decide (b≠0))=true then
    Mi (IntKind.i64.wrap ((IntKind.i64.wrap (4 * (IntKind.i64.wrap (Int.tdiv (IntKind.i64.wrap ((IntKind.i64.wrap ((IntKind.i64.wrap (j * a))+b)) - 1)) b)))) - 2))>>=fun x1=>
    if (decide ((l.length+1) * 17≤140737488355328))=true then
     Sc fu a b (l++[x1]) (IntKind.i64.wrap (j+1))
    else none
   else none
  else
   Q13 l [44,32]>>=fun x2=>
   some x2
theorem Cv (fu:Nat):(∀ (a:Int) (b:Int) (l:List Str) (j:Int),Le (Sc fu a b l j) (C7 a b l j)):=by
 induction fu with
 | zero=>exact fun _ _ _ _=>Le.none
 | succ fu ih=>
  have ih0:=ih
  refine fun a b l j=>?_
  ·rw [Sc,C7]
   repeat (with_reducible first | exact Le.rfl | exact ih0 _ _ _ _ | exact N0 _ | refine Le.bind ?_ (fun _=>?_) | refine Le.ite ?_ ?_ | (rename_i x; cases x))
theorem Tv (fu:Nat)(a:Int)(b:Int)(l:List Str)(j:Int):Le (Sc fu a b l j) (C7 a b l j):=(Cv fu) a b l j
def Ul (fu:Nat)(a:Int)(b:Int):Option Str:=
 Sc fu a b [] 1
theorem Sy (fu:Nat)(a:Int)(b:Int):Le (Ul fu a b) (Uh a b):=by
 unfold Ul Uh
 repeat (with_reducible first | exact Le.rfl | exact Tv fu _ _ _ _ | exact N0 _ | refine Le.bind ?_ (fun _=>?_) | refine Le.ite ?_ ?_ | (rename_i x; cases x))
def Ie (fu:Nat)(c:Int):Option Bool:=
 some (bif (decide (c≥97)) then (decide (c≤122)) else false)
theorem Oj (fu:Nat)(c:Int):Le (Ie fu c) (Db c):=by
 unfold Ie Db
 repeat (with_reducible first | exact Le.rfl | exact N0 _ | refine Le.bind ?_ (fun _=>?_) | refine Le.ite ?_ ?_ | (rename_i x; cases x))
def Ed (fu:Nat)(c:Int):Option Bool:=
 some (bif (decide (c≥48)) then (decide (c≤57)) else false)
theorem Oh (fu:Nat)(c:Int):Le (Ed fu c) (Ja c):=by
 unfold Ed Ja
 repeat (with_reducible first | exact Le.rfl | exact N0 _ | refine Le.bind ?_ (fun _=>?_) | refine Le.ite ?_ ?_ | (rename_i x; cases x))
def Hg:Nat→Str→Int→Option Int
 | 0,_,_=>none
 | fu+1,s,i1=>
  (if (decide (i1 < ((s).length:Int)))=true then idx s i1 else some default)>>=fun x1=>
  (if (decide (i1 < ((s).length:Int)))=true then Ie fu (x1.toNat:Int) else some default)>>=fun x2=>
  (if ((decide (i1 < ((s).length:Int)))&&(!x2))=true then idx s i1 else some default)>>=fun x3=>
  (if ((decide (i1 < ((s).length:Int)))&&(!x2))=true then Ed fu (x3.toNat:Int) else some default)>>=fun x4=>
  if (bif (decide (i1 < ((s).length:Int))) then (bif x2 then true else x4) else false)=true then
   Hg fu s (IntKind.i64.wrap (i1+1))
  else
   some i1
theorem Ty (fu:Nat):(∀ (s:Str) (i1:Int),Le (Hg fu s i1) (Kc s i1)):=by
 induction fu with
 | zero=>exact fun _ _=>Le.none
 | succ fu ih=>
  have ih0:=ih
  refine fun s i1=>?_
  ·rw [Hg,Kc]
   repeat (with_reducible first | exact Le.rfl | exact ih0 _ _ | exact Oj fu _ | exact Oh fu _ | exact N0 _ | refine Le.bind ?_ (fun _=>?_) | refine Le.ite ?_ ?_ | (rename_i x; cases x))
theorem J10 (fu:Nat)(s:Str)(i1:Int):Le (Hg fu s i1) (Kc s i1):=(Ty fu) s i1
def Wn (fu:Nat)(s:Str)(i:Int):Option Int:=
 Hg fu s i
theorem T13 (fu:Nat)(s:Str)(i:Int):Le (Wn fu s i) (Tk s i):=by
 unfold Wn Tk
 repeat (with_reducible first | exact Le.rfl | exact J10 fu _ _ | exact N0 _ | refine Le.bind ?_ (fun _=>?_) | refine Le.ite ?_ ?_ | (rename_i x; cases x))
def Ph (fu:Nat)(word:Str):Option Bool:=
 (if (!(word == []))=true then Nl word [32] else some default)>>=fun x1=>
 if (!(bif (!(word == [])) then (!x1) else false)||(decide (1+word.length≤maxLen)))=true then
  if (!(bif (!(word == [])) then (!x1) else false)||(decide (([32]++word).length+1≤maxLen)))=true then
   (if (bif (!(word == [])) then (!x1) else false)=true then Nl [32,116,121,112,101,32,115,101,99,114,101,116,32,112,117,98,108,105,99,32,114,97,110,100,111,109,32,118,97,114,32,104,97,116,99,104,32,102,117,110,99,32,114,101,116,117,114,110,32,98,101,103,105,110,32,101,110,100,32,98,111,111,108,32,105,110,116,32,97,114,114,97,121,32,111,102,32,114,101,99,111,114,100,32,116,114,117,101,32,102,97,108,115,101,32,99,97,108,108,32,114,101,108,101,97,115,101,32,111,117,116,112,117,116,32,119,97,105,116,32,105,102,32,101,108,115,101,32,119,104,105,108,101,32,108,105,109,105,116,32,102,111,114,32,116,111,32,115,101,116,116,108,101,32,109,105,110,32,109,97,120,32] (([32]++word)++[32]) else some default)>>=fun x2=>
   some (bif (bif (!(word == [])) then (!x1) else false) then x2 else false)
  else none
 else none
theorem Sp (fu:Nat)(word:Str):Le (Ph fu word) (Be word):=by
 unfold Ph Be
 repeat (with_reducible first | exact Le.rfl | exact N0 _ | refine Le.bind ?_ (fun _=>?_) | refine Le.ite ?_ ?_ | (rename_i x; cases x))
def Md:Nat→Str→Int→Int→Option Int
 | 0,_,_,_=>none
 | fu+1,s,n,v7=>
  if (decide (v7 < ((s).length:Int)))=true then
   idx s v7>>=fun x1=>
   Ed fu (x1.toNat:Int)>>=fun x2=>
   if (!x2)=true then
    some 6
   else
    idx s v7>>=fun x3=>
    Md fu s (min (IntKind.i64.wrap ((IntKind.i64.wrap (10 * n))+(IntKind.i64.wrap (IntKind.u8.wrap ((x3.toNat:Int) - 48))))) 1048577) (IntKind.i64.wrap (v7+1))
  else
   idx s 0>>=fun x4=>
   if (bif ((x4.toNat:Int) == 48) then (decide (((s).length:Int) > 1)) else false)=true then
    some 6
   else
    if (decide (n > 1048576))=true then
     some 3
    else
     some 0
theorem Uv (fu:Nat):(∀ (s:Str) (n:Int) (v7:Int),Le (Md fu s n v7) (T7 s n v7)):=by
 induction fu with
 | zero=>exact fun _ _ _=>Le.none
 | succ fu ih=>
  have ih0:=ih
  refine fun s n v7=>?_
  ·rw [Md,T7]
   repeat (with_reducible first | exact Le.rfl | exact ih0 _ _ _ | exact Oh fu _ | exact N0 _ | refine Le.bind ?_ (fun _=>?_) | refine Le.ite ?_ ?_ | (rename_i x; cases x))
theorem Uw (fu:Nat)(s:Str)(n:Int)(v7:Int):Le (Md fu s n v7) (T7 s n v7):=(Uv fu) s n v7
def En (fu:Nat)(s:Str):Option Int:=
 Md fu s 0 0
theorem K10 (fu:Nat)(s:Str):Le (En fu s) (Pi s):=by
 unfold En Pi
 repeat (with_reducible first | exact Le.rfl | exact Uw fu _ _ _ | exact N0 _ | refine Le.bind ?_ (fun _=>?_) | refine Le.ite ?_ ?_ | (rename_i x; cases x))
def Hi (fu:Nat)(s:Str):Option Str:=
 idx s 0>>=fun x3=>
 Es [59,58,44,46,61,43,45,42,47,37,60,62,33,63,40,41,91,93,123,125] (x3.toNat:Int)>>=fun x4=>
 if (decide (x4≥0))=true then
  slc s 0 1>>=fun x5=>
  some x5
 else
  some []
theorem Ar (fu:Nat)(s:Str):Le (Hi fu s) (Af s):=by
 unfold Hi Af
 repeat (with_reducible first | exact Le.rfl | exact N0 _ | refine Le.bind ?_ (fun _=>?_) | refine Le.ite ?_ ?_ | (rename_i x; cases x))
def O6 (fu:Nat)(s:Str)(v8:Bool):Option Str:=
 if v8=true then
  slc s 0 2>>=fun x2=>
  some x2
 else
  Hi fu s
theorem Uy (fu:Nat)(s:Str)(v8:Bool):Le (O6 fu s v8) (W5 s v8):=by
 unfold O6 W5
 repeat (with_reducible first | exact Le.rfl | exact Ar fu _ | exact N0 _ | refine Le.bind ?_ (fun _=>?_) | refine Le.ite ?_ ?_ | (rename_i x; cases x))
def Br (fu:Nat)(s:Str):Option Str:=
 if (decide (((s).length:Int)≥2))=true then
  slc s 0 2>>=fun x1=>
  if (x1 == [46,46])=true then
   O6 fu s (x1 == [46,46])
  else
   if (x1 == [61,61])=true then
    O6 fu s (x1 == [61,61])
   else
    if (x1 == [33,61])=true then
     O6 fu s (x1 == [33,61])
    else
     if (x1 == [60,61])=true then
      O6 fu s (x1 == [60,61])
     else
      if (x1 == [62,61])=true then
       O6 fu s (x1 == [62,61])
      else
       if (x1 == [38,38])=true then
        O6 fu s (x1 == [38,38])
       else
        O6 fu s (x1 == [124,124])
 else
  Hi fu s
theorem B12 (fu:Nat)(s:Str):Le (Br fu s) (Pl s):=by
 unfold Br Pl
 repeat (with_reducible first | exact Le.rfl | exact Uy fu _ _ | exact Ar fu _ | exact N0 _ | refine Le.bind ?_ (fun _=>?_) | refine Le.ite ?_ ?_ | (rename_i x; cases x))
def Cr (fu:Nat)(s:Str)(i:Int):Option (X0×Int):=
 idx s i>>=fun x1=>
 Ie fu (x1.toNat:Int)>>=fun x2=>
 if x2=true then
  Wn fu s i>>=fun x3=>
  slc s i x3>>=fun x4=>
  Ph fu x4>>=fun x5=>
  if x5=true then
   some ((X0.mk 2 x4 i),0)
  else
   if (decide (((x4).length:Int) > 12))=true then
    some ((X0.mk 0 x4 i),7)
   else
    some ((X0.mk 0 x4 i),0)
 else
  Ed fu (x1.toNat:Int)>>=fun x6=>
  if x6=true then
   Wn fu s i>>=fun x7=>
   slc s i x7>>=fun x8=>
   En fu x8>>=fun x9=>
   some ((X0.mk 1 x8 i),x9)
  else
   slc s i ((s).length:Int)>>=fun x10=>
   Br fu x10>>=fun x11=>
   if (x11 == [])=true then
    some ((X0.mk 3 x11 i),6)
   else
    some ((X0.mk 3 x11 i),0)
theorem Jp (fu:Nat)(s:Str)(i:Int):Le (Cr fu s i) (Ql s i):=by
 unfold Cr Ql
 repeat (with_reducible first | exact Le.rfl | exact Oj fu _ | exact T13 fu _ _ | exact Sp fu _ | exact Oh fu _ | exact K10 fu _ | exact B12 fu _ | exact N0 _ | refine Le.bind ?_ (fun _=>?_) | refine Le.ite ?_ ?_ | (rename_i x; cases x))
mutual
def Fb:Nat→Str→(List X0)→Int→Option (List X0×Int×Int)
 | 0,_,_,_=>none
 | fu+1,s,out,i=>
  if (decide (i < ((s).length:Int)))=true then
   idx s i>>=fun x1=>
   if ((x1.toNat:Int) == 32)=true then
    Ig fu s out i x1 ((x1.toNat:Int) == 32)
   else
    if ((x1.toNat:Int) == 9)=true then
     Ig fu s out i x1 ((x1.toNat:Int) == 9)
    else
     Ig fu s out i x1 ((x1.toNat:Int) == 10)
  else
   some (out,0,0)
def Ig:Nat→Str→(List X0)→Int→UInt8→Bool→Option (List X0×Int×Int)
 | 0,_,_,_,_,_=>none
 | fu+1,s,out1,i1,x1,v19=>
  if v19=true then
   Fb fu s out1 (IntKind.i64.wrap (i1+1))
  else
   if ((x1.toNat:Int) == 35)=true then
    Jj fu s out1 i1
   else
    Cr fu s i1>>=fun x2=>
    if (x2.2 != 0)=true then
     some ([],i1,x2.2)
    else
     if (decide ((out1.length+1) * 33≤140737488355328))=true then
      Fb fu s (out1++[x2.1]) (IntKind.i64.wrap (i1+((x2.1.Text).length:Int)))
     else none
def Jj:Nat→Str→(List X0)→Int→Option (List X0×Int×Int)
 | 0,_,_,_=>none
 | fu+1,s,out2,i2=>
  (if (decide (i2 < ((s).length:Int)))=true then idx s i2 else some default)>>=fun x3=>
  if (bif (decide (i2 < ((s).length:Int))) then ((x3.toNat:Int) != 10) else false)=true then
   Jj fu s out2 (IntKind.i64.wrap (i2+1))
  else
   Fb fu s out2 i2
end
theorem Vy (fu:Nat):(∀ (s:Str) (out:List X0) (i:Int),Le (Fb fu s out i) (E8 s out i))∧(∀ (s:Str) (out1:List X0) (i1:Int) (x1:UInt8) (v19:Bool),Le (Ig fu s out1 i1 x1 v19) (Wf s out1 i1 x1 v19))∧(∀ (s:Str) (out2:List X0) (i2:Int),Le (Jj fu s out2 i2) (Qi s out2 i2)):=by
 induction fu with
 | zero=>exact ⟨fun _ _ _=>Le.none,fun _ _ _ _ _=>Le.none,fun _ _ _=>Le.none⟩
 | succ fu ih=>
  obtain ⟨ih0,ih1,ih2⟩:=ih
  refine ⟨fun s out i=>?_,fun s out1 i1 x1 v19=>?_,fun s out2 i2=>?_⟩
  ·rw [Fb,E8]
   repeat (with_reducible first | exact Le.rfl | exact ih0 _ _ _ | exact ih1 _ _ _ _ _ | exact ih2 _ _ _ | exact Jp fu _ _ | exact N0 _ | refine Le.bind ?_ (fun _=>?_) | refine Le.ite ?_ ?_ | (rename_i x; cases x))
  ·rw [Ig,Wf]
   repeat (with_reducible first | exact Le.rfl | exact ih0 _ _ _ | exact ih1 _ _ _ _ _ | exact ih2 _ _ _ | exact Jp fu _ _ | exact N0 _ | refine Le.bind ?_ (fun _=>?_) | refine Le.ite ?_ ?_ | (rename_i x; cases x))
  ·rw [Jj,Qi]
   repeat (with_reducible first | exact Le.rfl | exact ih0 _ _ _ | exact ih1 _ _ _ _ _ | exact ih2 _ _ _ | exact Jp fu _ _ | exact N0 _ | refine Le.bind ?_ (fun _=>?_) | refine Le.ite ?_ ?_ | (rename_i x; cases x))
theorem L10 (fu:Nat)(s:Str)(out:List X0)(i:Int):Le (Fb fu s out i) (E8 s out i):=(Vy fu).1 s out i
def Rs (fu:Nat)(s:Str):Option (List X0×Int×Int):=
 if (decide (((s).length:Int) > 8192))=true then
  some ([],0,5)
 else
  Fb fu s [] 0
theorem U13 (fu:Nat)(s:Str):Le (Rs fu s) (Oo s):=by
 unfold Rs Oo
 repeat (with_reducible first | exact Le.rfl | exact L10 fu _ _ _ | exact N0 _ | refine Le.bind ?_ (fun _=>?_) | refine Le.ite ?_ ?_ | (rename_i x; cases x))
def Gf (fu:Nat)(text:Str)(parserParser:A0):Option Bool:=
 if (decide (parserParser.next≥((parserParser.tokens).length:Int)))=true then
  some false
 else
  idx parserParser.tokens parserParser.next>>=fun x1=>
  some (bif (x1.Text == text) then (bif (x1.Kind == 2) then true else (x1.Kind == 3)) else false)
theorem Mm (fu:Nat)(text:Str)(parserParser:A0):Le (Gf fu text parserParser) (Eb text parserParser):=by
 unfold Gf Eb
 repeat (with_reducible first | exact Le.rfl | exact N0 _ | refine Le.bind ?_ (fun _=>?_) | refine Le.ite ?_ ?_ | (rename_i x; cases x))
def P0 (fu:Nat)(text:Str)(parserParser:A0):Option (Bool×A0):=
 Gf fu text parserParser>>=fun x1=>
 if (!x1)=true then
  some (false,parserParser)
 else
  some (true,(A0.mk parserParser.tokens (IntKind.i64.wrap (parserParser.next+1)) parserParser.endV))
theorem Y0 (fu:Nat)(text:Str)(parserParser:A0):Le (P0 fu text parserParser) (S0 text parserParser):=by
 unfold P0 S0
 repeat (with_reducible first | exact Le.rfl | exact Mm fu _ _ | exact N0 _ | refine Le.bind ?_ (fun _=>?_) | refine Le.ite ?_ ?_ | (rename_i x; cases x))
def U9 (fu:Nat)(parserParser:A0):Option (Pn Unit):=
 if (decide (parserParser.next < ((parserParser.tokens).length:Int)))=true then
  idx parserParser.tokens parserParser.next>>=fun x1=>
  some (.pn x1.At)
 else
  some (.pn parserParser.endV)
theorem Jg (fu:Nat)(parserParser:A0):Le (U9 fu parserParser) (D7 parserParser):=by
 unfold U9 D7
 repeat (with_reducible first | exact Le.rfl | exact N0 _ | refine Le.bind ?_ (fun _=>?_) | refine Le.ite ?_ ?_ | (rename_i x; cases x))
def Na (fu:Nat)(parserParser:A0):Option (Pn (Str×A0)):=
 idx parserParser.tokens (IntKind.i64.wrap ((IntKind.i64.wrap (parserParser.next+1)) - 1))>>=fun x3=>
 some (.ok (x3.Text,(A0.mk parserParser.tokens (IntKind.i64.wrap (parserParser.next+1)) parserParser.endV)))
theorem Dr (fu:Nat)(parserParser:A0):Le (Na fu parserParser) (R6 parserParser):=by
 unfold Na R6
 repeat (with_reducible first | exact Le.rfl | exact N0 _ | refine Le.bind ?_ (fun _=>?_) | refine Le.ite ?_ ?_ | (rename_i x; cases x))
def Ud (fu:Nat)(k:Int)(parserParser:A0):Option (Pn (Str×A0)):=
 (if (!(decide (parserParser.next≥((parserParser.tokens).length:Int))))=true then idx parserParser.tokens parserParser.next else some default)>>=fun x1=>
 if (bif (decide (parserParser.next≥((parserParser.tokens).length:Int))) then true else (x1.Kind != k))=true then
  U9 fu parserParser>>=fun x2=>match x2 with
  | .pn nn=>
  some (.pn nn)
  | .ok x2=>
  Na fu parserParser
 else
  Na fu parserParser
theorem Zk (fu:Nat)(k:Int)(parserParser:A0):Le (Ud fu k parserParser) (Z8 k parserParser):=by
 unfold Ud Z8
 repeat (with_reducible first | exact Le.rfl | exact Jg fu _ | exact Dr fu _ | exact N0 _ | refine Le.bind ?_ (fun _=>?_) | refine Le.ite ?_ ?_ | (rename_i x; cases x))
def P3 (fu:Nat)(parserParser:A0):Option (Pn (Str×A0)):=
 Ud fu 0 parserParser>>=fun x1=>match x1 with
 | .pn nn=>
 some (.pn nn)
 | .ok x1=>
 some (.ok (x1.1,x1.2))
theorem D1 (fu:Nat)(parserParser:A0):Le (P3 fu parserParser) (F3 parserParser):=by
 unfold P3 F3
 repeat (with_reducible first | exact Le.rfl | exact Zk fu _ _ | exact N0 _ | refine Le.bind ?_ (fun _=>?_) | refine Le.ite ?_ ?_ | (rename_i x; cases x))
def R0 (fu:Nat)(text:Str)(parserParser:A0):Option (Pn A0):=
 P0 fu text parserParser>>=fun x1=>
 if (!x1.1)=true then
  U9 fu x1.2>>=fun x2=>match x2 with
  | .pn nn=>
  some (.pn nn)
  | .ok x2=>
  some (.ok x1.2)
 else
  some (.ok x1.2)
theorem Z0 (fu:Nat)(text:Str)(parserParser:A0):Le (R0 fu text parserParser) (U0 text parserParser):=by
 unfold R0 U0
 repeat (with_reducible first | exact Le.rfl | exact Y0 fu _ _ | exact Jg fu _ | exact N0 _ | refine Le.bind ?_ (fun _=>?_) | refine Le.ite ?_ ?_ | (rename_i x; cases x))
def P8 (fu:Nat)(parserParser:A0):Option (Pn (Int×A0)):=
 Ud fu 1 parserParser>>=fun x1=>match x1 with
 | .pn nn=>
 some (.pn nn)
 | .ok x1=>
 R13 x1.1>>=fun x2=>
 some (.ok (x2,x1.2))
theorem R1 (fu:Nat)(parserParser:A0):Le (P8 fu parserParser) (R5 parserParser):=by
 unfold P8 R5
 repeat (with_reducible first | exact Le.rfl | exact Zk fu _ _ | exact N0 _ | refine Le.bind ?_ (fun _=>?_) | refine Le.ite ?_ ?_ | (rename_i x; cases x))
def Z2 (fu:Nat)(parserParser:A0):Option (Pn (Int×A0)):=
 P0 fu [45] parserParser>>=fun x1=>
 if x1.1=true then
  P8 fu x1.2>>=fun x2=>match x2 with
  | .pn nn=>
  some (.pn nn)
  | .ok x2=>
  some (.ok ((IntKind.i64.wrap (0 - x2.1)),x2.2))
 else
  P8 fu x1.2>>=fun x3=>match x3 with
  | .pn nn=>
  some (.pn nn)
  | .ok x3=>
  some (.ok (x3.1,x3.2))
theorem I4 (fu:Nat)(parserParser:A0):Le (Z2 fu parserParser) (T2 parserParser):=by
 unfold Z2 T2
 repeat (with_reducible first | exact Le.rfl | exact Y0 fu _ _ | exact R1 fu _ | exact N0 _ | refine Le.bind ?_ (fun _=>?_) | refine Le.ite ?_ ?_ | (rename_i x; cases x))
mutual
def G5:Nat→A0→Option (Pn (L0×A0))
 | 0,_=>none
 | fu+1,parserParser=>
  P0 fu [98,111,111,108] parserParser>>=fun x1=>
  if x1.1=true then
   some (.ok ((L0.mk 0 0 0 0 [] [] []),x1.2))
  else
   P0 fu [105,110,116] x1.2>>=fun x2=>
   if x2.1=true then
    R0 fu [91] x2.2>>=fun x3=>match x3 with
    | .pn nn=>
    some (.pn nn)
    | .ok x3=>
    Z2 fu x3>>=fun x4=>match x4 with
    | .pn nn=>
    some (.pn nn)
    | .ok x4=>
    R0 fu [46,46] x4.2>>=fun x5=>match x5 with
    | .pn nn=>
    some (.pn nn)
    | .ok x5=>
    Z2 fu x5>>=fun x6=>match x6 with
    | .pn nn=>
    some (.pn nn)
    | .ok x6=>
    R0 fu [93] x6.2>>=fun x7=>match x7 with
    | .pn nn=>
    some (.pn nn)
    | .ok x7=>
    some (.ok ((L0.mk 1 x4.1 x6.1 0 [] [] []),x7))
   else
    P0 fu [97,114,114,97,121] x2.2>>=fun x8=>
    if x8.1=true then
     Z2 fu x8.2>>=fun x9=>match x9 with
     | .pn nn=>
     some (.pn nn)
     | .ok x9=>
     R0 fu [111,102] x9.2>>=fun x10=>match x10 with
     | .pn nn=>
     some (.pn nn)
     | .ok x10=>
     G5 fu x10>>=fun x16=>match x16 with
     | .pn nn=>
     some (.pn nn)
     | .ok x16=>
     some (.ok ((L0.mk 2 0 0 x9.1 [] [] [x16.1]),x16.2))
    else
     P0 fu [114,101,99,111,114,100] x8.2>>=fun x11=>
     if x11.1=true then
      R0 fu [123] x11.2>>=fun x12=>match x12 with
      | .pn nn=>
      some (.pn nn)
      | .ok x12=>
      Sb fu x12 [] []
     else
      P3 fu x11.2>>=fun x13=>match x13 with
      | .pn nn=>
      some (.pn nn)
      | .ok x13=>
      some (.ok ((L0.mk 4 0 0 0 x13.1 [] []),x13.2))
def Sb:Nat→A0→(List Str)→(List L0)→Option (Pn (L0×A0))
 | 0,_,_,_=>none
 | fu+1,o0,o2_Names,o2_Of=>
  P3 fu o0>>=fun x14=>match x14 with
  | .pn nn=>
  some (.pn nn)
  | .ok x14=>
  R0 fu [58] x14.2>>=fun x15=>match x15 with
  | .pn nn=>
  some (.pn nn)
  | .ok x15=>
  G5 fu x15>>=fun x17=>match x17 with
  | .pn nn=>
  some (.pn nn)
  | .ok x17=>
  if (decide ((o2_Names.length+1) * 17≤140737488355328))=true then
   if (decide ((o2_Of.length+1) * 97≤140737488355328))=true then
    P0 fu [44] x17.2>>=fun x18=>
    if (!x18.1)=true then
     R0 fu [125] x18.2>>=fun x19=>match x19 with
     | .pn nn=>
     some (.pn nn)
     | .ok x19=>
     some (.ok ((L0.mk 3 0 0 0 [] (o2_Names++[x14.1]) (o2_Of++[x17.1])),x19))
    else
     Sb fu x18.2 (o2_Names++[x14.1]) (o2_Of++[x17.1])
   else none
  else none
end
theorem Lu (fu:Nat):(∀ (parserParser:A0),Le (G5 fu parserParser) (T4 parserParser))∧(∀ (o0:A0) (o2_Names:List Str) (o2_Of:List L0),Le (Sb fu o0 o2_Names o2_Of) (O9 o0 o2_Names o2_Of)):=by
 induction fu with
 | zero=>exact ⟨fun _=>Le.none,fun _ _ _=>Le.none⟩
 | succ fu ih=>
  obtain ⟨ih0,ih1⟩:=ih
  refine ⟨fun parserParser=>?_,fun o0 o2_Names o2_Of=>?_⟩
  ·rw [G5,T4]
   repeat (with_reducible first | exact Le.rfl | exact ih0 _ | exact ih1 _ _ _ | exact Y0 fu _ _ | exact Z0 fu _ _ | exact I4 fu _ | exact D1 fu _ | exact N0 _ | refine Le.bind ?_ (fun _=>?_) | refine Le.ite ?_ ?_ | (rename_i x; cases x))
  ·rw [Sb,O9]
   repeat (with_reducible first | exact Le.rfl | exact ih0 _ | exact ih1 _ _ _ | exact Y0 fu _ _ | exact Z0 fu _ _ | exact I4 fu _ | exact D1 fu _ | exact N0 _ | refine Le.bind ?_ (fun _=>?_) | refine Le.ite ?_ ?_ | (rename_i x; cases x))
theorem Qh (fu:Nat)(parserParser:A0):Le (G5 fu parserParser) (T4 parserParser):=(Lu fu).1 parserParser
def O4 (fu:Nat)(kind:Int)(parserParser:A0):Option (Pn (E0×A0)):=
 P3 fu parserParser>>=fun x1=>match x1 with
 | .pn nn=>
 some (.pn nn)
 | .ok x1=>
 R0 fu [58] x1.2>>=fun x2=>match x2 with
 | .pn nn=>
 some (.pn nn)
 | .ok x2=>
 G5 fu x2>>=fun x3=>match x3 with
 | .pn nn=>
 some (.pn nn)
 | .ok x3=>
 some (.ok ((E0.mk kind x1.1 x3.1 0 (B0.mk 0 0 [] []) [] [] []),x3.2))
theorem Tb (fu:Nat)(kind:Int)(parserParser:A0):Le (O4 fu kind parserParser) (Y3 kind parserParser):=by
 unfold O4 Y3
 repeat (with_reducible first | exact Le.rfl | exact D1 fu _ | exact Z0 fu _ _ | exact Qh fu _ | exact N0 _ | refine Le.bind ?_ (fun _=>?_) | refine Le.ite ?_ ?_ | (rename_i x; cases x))
def V9 (fu:Nat)(parserParser:A0):Option (Pn (E0×A0)):=
 O4 fu 4 parserParser>>=fun x1=>match x1 with
 | .pn nn=>
 some (.pn nn)
 | .ok x1=>
 P0 fu [61] x1.2>>=fun x2=>
 if x2.1=true then
  P0 fu [116,114,117,101] x2.2>>=fun x3=>
  if x3.1=true then
   R0 fu [59] x3.2>>=fun x4=>match x4 with
   | .pn nn=>
   some (.pn nn)
   | .ok x4=>
   some (.ok ((E0.mk x1.1.Kind x1.1.Name x1.1.TypeV 1 x1.1.Value x1.1.Params x1.1.Vars x1.1.Body),x4))
  else
   P0 fu [102,97,108,115,101] x3.2>>=fun x5=>
   if x5.1=true then
    R0 fu [59] x5.2>>=fun x4=>match x4 with
    | .pn nn=>
    some (.pn nn)
    | .ok x4=>
    some (.ok (x1.1,x4))
   else
    Z2 fu x5.2>>=fun x6=>match x6 with
    | .pn nn=>
    some (.pn nn)
    | .ok x6=>
    R0 fu [59] x6.2>>=fun x4=>match x4 with
    | .pn nn=>
    some (.pn nn)
    | .ok x4=>
    some (.ok ((E0.mk x1.1.Kind x1.1.Name x1.1.TypeV x6.1 x1.1.Value x1.1.Params x1.1.Vars x1.1.Body),x4))
 else
  R0 fu [59] x2.2>>=fun x4=>match x4 with
  | .pn nn=>
  some (.pn nn)
  | .ok x4=>
  some (.ok (x1.1,x4))
theorem Ii (fu:Nat)(parserParser:A0):Le (V9 fu parserParser) (B6 parserParser):=by
 unfold V9 B6
 repeat (with_reducible first | exact Le.rfl | exact Tb fu _ _ | exact Y0 fu _ _ | exact Z0 fu _ _ | exact I4 fu _ | exact N0 _ | refine Le.bind ?_ (fun _=>?_) | refine Le.ite ?_ ?_ | (rename_i x; cases x))
def Q8 (fu:Nat)(parserParser:A0):Option Bool:=
 (if (decide (parserParser.next < ((parserParser.tokens).length:Int)))=true then idx parserParser.tokens parserParser.next else some default)>>=fun x1=>
 some (bif (decide (parserParser.next < ((parserParser.tokens).length:Int))) then (x1.Kind == 0) else false)
theorem I1 (fu:Nat)(parserParser:A0):Le (Q8 fu parserParser) (S5 parserParser):=by
 unfold Q8 S5
 repeat (with_reducible first | exact Le.rfl | exact N0 _ | refine Le.bind ?_ (fun _=>?_) | refine Le.ite ?_ ?_ | (rename_i x; cases x))
def Vd (fu:Nat)(parserParser:A0):Option (Int×Bool×A0):=
 P0 fu [42] parserParser>>=fun x1=>
 if x1.1=true then
  some (10,true,x1.2)
 else
  P0 fu [47] x1.2>>=fun x2=>
  if x2.1=true then
   some (11,true,x2.2)
  else
   P0 fu [37] x2.2>>=fun x3=>
   some (12,x3.1,x3.2)
theorem Q1 (fu:Nat)(parserParser:A0):Le (Vd fu parserParser) (S7 parserParser):=by
 unfold Vd S7
 repeat (with_reducible first | exact Le.rfl | exact Y0 fu _ _ | exact N0 _ | refine Le.bind ?_ (fun _=>?_) | refine Le.ite ?_ ?_ | (rename_i x; cases x))
def Kg (fu:Nat)(parserParser:A0):Option (Int×Bool×A0):=
 P0 fu [43] parserParser>>=fun x1=>
 if x1.1=true then
  some (8,true,x1.2)
 else
  P0 fu [45] x1.2>>=fun x2=>
  some (9,x2.1,x2.2)
theorem X1 (fu:Nat)(parserParser:A0):Le (Kg fu parserParser) (Ta parserParser):=by
 unfold Kg Ta
 repeat (with_reducible first | exact Le.rfl | exact Y0 fu _ _ | exact N0 _ | refine Le.bind ?_ (fun _=>?_) | refine Le.ite ?_ ?_ | (rename_i x; cases x))
def Lg (fu:Nat)(parserParser:A0):Option (Int×Bool×A0):=
 P0 fu [38,38] parserParser>>=fun x1=>
 some (19,x1.1,x1.2)
theorem Y1 (fu:Nat)(parserParser:A0):Le (Lg fu parserParser) (Ua parserParser):=by
 unfold Lg Ua
 repeat (with_reducible first | exact Le.rfl | exact Y0 fu _ _ | exact N0 _ | refine Le.bind ?_ (fun _=>?_) | refine Le.ite ?_ ?_ | (rename_i x; cases x))
def Rh (fu:Nat)(parserParser:A0):Option (Int×Bool×A0):=
 P0 fu [124,124] parserParser>>=fun x1=>
 some (20,x1.1,x1.2)
theorem C2 (fu:Nat)(parserParser:A0):Le (Rh fu parserParser) (Lc parserParser):=by
 unfold Rh Lc
 repeat (with_reducible first | exact Le.rfl | exact Y0 fu _ _ | exact N0 _ | refine Le.bind ?_ (fun _=>?_) | refine Le.ite ?_ ?_ | (rename_i x; cases x))
mutual
def W1:Nat→A0→Option (Pn (B0×A0))
 | 0,_=>none
 | fu+1,parserParser=>
  Bj fu parserParser>>=fun x1=>match x1 with
  | .pn nn=>
  some (.pn nn)
  | .ok x1=>
  P0 fu [63] x1.2>>=fun x2=>
  if (!x2.1)=true then
   some (.ok (x1.1,x2.2))
  else
   W1 fu x2.2>>=fun x3=>match x3 with
   | .pn nn=>
   some (.pn nn)
   | .ok x3=>
   R0 fu [58] x3.2>>=fun x4=>match x4 with
   | .pn nn=>
   some (.pn nn)
   | .ok x4=>
   W1 fu x4>>=fun x5=>match x5 with
   | .pn nn=>
   some (.pn nn)
   | .ok x5=>
   some (.ok ((B0.mk 23 0 [] [x1.1,x3.1,x5.1]),x5.2))
def Bj:Nat→A0→Option (Pn (B0×A0))
 | 0,_=>none
 | fu+1,parserParser=>
  Mg fu parserParser>>=fun x1=>match x1 with
  | .pn nn=>
  some (.pn nn)
  | .ok x1=>
  some (.ok (x1.1,x1.2))
def Mg:Nat→A0→Option (Pn (B0×A0))
 | 0,_=>none
 | fu+1,parserParser=>
  Re fu parserParser>>=fun x1=>match x1 with
  | .pn nn=>
  some (.pn nn)
  | .ok x1=>
  W9 fu x1.2 x1.1
def Re:Nat→A0→Option (Pn (B0×A0))
 | 0,_=>none
 | fu+1,parserParser=>
  Je fu parserParser>>=fun x1=>match x1 with
  | .pn nn=>
  some (.pn nn)
  | .ok x1=>
  some (.ok (x1.1,x1.2))
def Je:Nat→A0→Option (Pn (B0×A0))
 | 0,_=>none
 | fu+1,parserParser=>
  T8 fu parserParser>>=fun x1=>match x1 with
  | .pn nn=>
  some (.pn nn)
  | .ok x1=>
  B8 fu x1.2 x1.1
def T8:Nat→A0→Option (Pn (B0×A0))
 | 0,_=>none
 | fu+1,parserParser=>
  Se fu parserParser>>=fun x1=>match x1 with
  | .pn nn=>
  some (.pn nn)
  | .ok x1=>
  P0 fu [61,61] x1.2>>=fun x2=>
  if x2.1=true then
   K3 fu x2.2 x1 13
  else
   P0 fu [33,61] x2.2>>=fun x4=>
   if x4.1=true then
    K3 fu x4.2 x1 14
   else
    P0 fu [60] x4.2>>=fun x5=>
    if x5.1=true then
     K3 fu x5.2 x1 15
    else
     P0 fu [60,61] x5.2>>=fun x6=>
     if x6.1=true then
      K3 fu x6.2 x1 16
     else
      P0 fu [62] x6.2>>=fun x7=>
      if x7.1=true then
       K3 fu x7.2 x1 17
      else
       P0 fu [62,61] x7.2>>=fun x8=>
       if x8.1=true then
        K3 fu x8.2 x1 18
       else
        some (.ok (x1.1,x8.2))
def Se:Nat→A0→Option (Pn (B0×A0))
 | 0,_=>none
 | fu+1,parserParser=>
  Ke fu parserParser>>=fun x1=>match x1 with
  | .pn nn=>
  some (.pn nn)
  | .ok x1=>
  some (.ok (x1.1,x1.2))
def Ke:Nat→A0→Option (Pn (B0×A0))
 | 0,_=>none
 | fu+1,parserParser=>
  Oa fu parserParser>>=fun x1=>match x1 with
  | .pn nn=>
  some (.pn nn)
  | .ok x1=>
  A8 fu x1.2 x1.1
def Oa:Nat→A0→Option (Pn (B0×A0))
 | 0,_=>none
 | fu+1,parserParser=>
  Me fu parserParser>>=fun x1=>match x1 with
  | .pn nn=>
  some (.pn nn)
  | .ok x1=>
  some (.ok (x1.1,x1.2))
def Me:Nat→A0→Option (Pn (B0×A0))
 | 0,_=>none
 | fu+1,parserParser=>
  S6 fu parserParser>>=fun x1=>match x1 with
  | .pn nn=>
  some (.pn nn)
  | .ok x1=>
  Z7 fu x1.2 x1.1
def S6:Nat→A0→Option (Pn (B0×A0))
 | 0,_=>none
 | fu+1,parserParser=>
  P0 fu [45] parserParser>>=fun x1=>
  if x1.1=true then
   S6 fu x1.2>>=fun x4=>match x4 with
   | .pn nn=>
   some (.pn nn)
   | .ok x4=>
   some (.ok ((B0.mk 6 0 [] [x4.1]),x4.2))
  else
   P0 fu [33] x1.2>>=fun x2=>
   if x2.1=true then
    S6 fu x2.2>>=fun x5=>match x5 with
    | .pn nn=>
    some (.pn nn)
    | .ok x5=>
    some (.ok ((B0.mk 7 0 [] [x5.1]),x5.2))
   else
    Ve fu x2.2>>=fun x3=>match x3 with
    | .pn nn=>
    some (.pn nn)
    | .ok x3=>
    some (.ok (x3.1,x3.2))
def Ve:Nat→A0→Option (Pn (B0×A0))
 | 0,_=>none
 | fu+1,parserParser=>
  Q8 fu parserParser>>=fun x1=>
  if x1=true then
   I9 fu parserParser>>=fun x2=>match x2 with
   | .pn nn=>
   some (.pn nn)
   | .ok x2=>
   some (.ok (x2.1,x2.2))
  else
   P0 fu [116,114,117,101] parserParser>>=fun x3=>
   if x3.1=true then
    some (.ok ((B0.mk 1 0 [] []),x3.2))
   else
    P0 fu [102,97,108,115,101] x3.2>>=fun x4=>
    if x4.1=true then
     some (.ok ((B0.mk 2 0 [] []),x4.2))
    else
     P0 fu [109,105,110] x4.2>>=fun x5=>
     if x5.1=true then
      Wd fu 21 x5.2>>=fun x11=>match x11 with
      | .pn nn=>
      some (.pn nn)
      | .ok x11=>
      some (.ok (x11.1,x11.2))
     else
      P0 fu [109,97,120] x5.2>>=fun x6=>
      if x6.1=true then
       Wd fu 22 x6.2>>=fun x12=>match x12 with
       | .pn nn=>
       some (.pn nn)
       | .ok x12=>
       some (.ok (x12.1,x12.2))
      else
       P0 fu [40] x6.2>>=fun x7=>
       if x7.1=true then
        W1 fu x7.2>>=fun x9=>match x9 with
        | .pn nn=>
        some (.pn nn)
        | .ok x9=>
        R0 fu [41] x9.2>>=fun x10=>match x10 with
        | .pn nn=>
        some (.pn nn)
        | .ok x10=>
        some (.ok (x9.1,x10))
       else
        P8 fu x7.2>>=fun x8=>match x8 with
        | .pn nn=>
        some (.pn nn)
        | .ok x8=>
        some (.ok ((B0.mk 0 x8.1 [] []),x8.2))
def I9:Nat→A0→Option (Pn (B0×A0))
 | 0,_=>none
 | fu+1,parserParser=>
  P3 fu parserParser>>=fun x1=>match x1 with
  | .pn nn=>
  some (.pn nn)
  | .ok x1=>
  K7 fu x1.2 3 x1.1 []
def K7:Nat→A0→Int→Str→(List B0)→Option (Pn (B0×A0))
 | 0,_,_,_,_=>none
 | fu+1,o0,o2_Op,o2_Name,o2_Kids=>
  P0 fu [46] o0>>=fun x2=>
  if x2.1=true then
   P3 fu x2.2>>=fun x3=>match x3 with
   | .pn nn=>
   some (.pn nn)
   | .ok x3=>
   K7 fu x3.2 4 x3.1 [(B0.mk o2_Op 0 o2_Name o2_Kids)]
  else
   P0 fu [91] x2.2>>=fun x4=>
   if x4.1=true then
    W1 fu x4.2>>=fun x5=>match x5 with
    | .pn nn=>
    some (.pn nn)
    | .ok x5=>
    R0 fu [93] x5.2>>=fun x6=>match x6 with
    | .pn nn=>
    some (.pn nn)
    | .ok x6=>
    K7 fu x6 5 [] [(B0.mk o2_Op 0 o2_Name o2_Kids),x5.1]
   else
    some (.ok ((B0.mk o2_Op 0 o2_Name o2_Kids),x4.2))
def Wd:Nat→Int→A0→Option (Pn (B0×A0))
 | 0,_,_=>none
 | fu+1,op,parserParser=>
  R0 fu [40] parserParser>>=fun x1=>match x1 with
  | .pn nn=>
  some (.pn nn)
  | .ok x1=>
  W1 fu x1>>=fun x2=>match x2 with
  | .pn nn=>
  some (.pn nn)
  | .ok x2=>
  R0 fu [44] x2.2>>=fun x3=>match x3 with
  | .pn nn=>
  some (.pn nn)
  | .ok x3=>
  W1 fu x3>>=fun x4=>match x4 with
  | .pn nn=>
  some (.pn nn)
  | .ok x4=>
  R0 fu [41] x4.2>>=fun x5=>match x5 with
  | .pn nn=>
  some (.pn nn)
  | .ok x5=>
  some (.ok ((B0.mk op 0 [] [x2.1,x4.1]),x5))
def Z7:Nat→A0→B0→Option (Pn (B0×A0))
 | 0,_,_=>none
 | fu+1,o0,o3=>
  Vd fu o0>>=fun x2=>
  if (!x2.2.1)=true then
   some (.ok (o3,x2.2.2))
  else
   S6 fu x2.2.2>>=fun x3=>match x3 with
   | .pn nn=>
   some (.pn nn)
   | .ok x3=>
   Z7 fu x3.2 (B0.mk x2.1 0 [] [o3,x3.1])
def A8:Nat→A0→B0→Option (Pn (B0×A0))
 | 0,_,_=>none
 | fu+1,o0,o3=>
  Kg fu o0>>=fun x2=>
  if (!x2.2.1)=true then
   some (.ok (o3,x2.2.2))
  else
   Oa fu x2.2.2>>=fun x3=>match x3 with
   | .pn nn=>
   some (.pn nn)
   | .ok x3=>
   A8 fu x3.2 (B0.mk x2.1 0 [] [o3,x3.1])
def K3:Nat→A0→(B0×A0)→Int→Option (Pn (B0×A0))
 | 0,_,_,_=>none
 | fu+1,o0,x1,op=>
  Se fu o0>>=fun x3=>match x3 with
  | .pn nn=>
  some (.pn nn)
  | .ok x3=>
  some (.ok ((B0.mk op 0 [] [x1.1,x3.1]),x3.2))
def B8:Nat→A0→B0→Option (Pn (B0×A0))
 | 0,_,_=>none
 | fu+1,o0,o3=>
  Lg fu o0>>=fun x2=>
  if (!x2.2.1)=true then
   some (.ok (o3,x2.2.2))
  else
   T8 fu x2.2.2>>=fun x3=>match x3 with
   | .pn nn=>
   some (.pn nn)
   | .ok x3=>
   B8 fu x3.2 (B0.mk x2.1 0 [] [o3,x3.1])
def W9:Nat→A0→B0→Option (Pn (B0×A0))
 | 0,_,_=>none
 | fu+1,o0,o3=>
  Rh fu o0>>=fun x2=>
  if (!x2.2.1)=true then
   some (.ok (o3,x2.2.2))
  else
   Re fu x2.2.2>>=fun x3=>match x3 with
   | .pn nn=>
   some (.pn nn)
   | .ok x3=>
   W9 fu x3.2 (B0.mk x2.1 0 [] [o3,x3.1])
end
theorem Ng (fu:Nat):(∀ (parserParser:A0),Le (W1 fu parserParser) (T1 parserParser))∧(∀ (parserParser:A0),Le (Bj fu parserParser) (Eh parserParser))∧(∀ (parserParser:A0),Le (Mg fu parserParser) (Qe parserParser))∧(∀ (parserParser:A0),Le (Re fu parserParser) (Kd parserParser))∧(∀ (parserParser:A0),Le (Je fu parserParser) (Nb parserParser))∧(∀ (parserParser:A0),Le (T8 fu parserParser) (E7 parserParser))∧(∀ (parserParser:A0),Le (Se fu parserParser) (Ld parserParser))∧(∀ (parserParser:A0),Le (Ke fu parserParser) (Pb parserParser))∧(∀ (parserParser:A0),Le (Oa fu parserParser) (A9 parserParser))∧(∀ (parserParser:A0),Le (Me fu parserParser) (Qb parserParser))∧(∀ (parserParser:A0),Le (S6 fu parserParser) (G6 parserParser))∧(∀ (parserParser:A0),Le (Ve fu parserParser) (Cd parserParser))∧(∀ (parserParser:A0),Le (I9 fu parserParser) (H6 parserParser))∧(∀ (o0:A0) (o2_Op:Int) (o2_Name:Str) (o2_Kids:List B0),Le (K7 fu o0 o2_Op o2_Name o2_Kids) (C6 o0 o2_Op o2_Name o2_Kids))∧(∀ (op:Int) (parserParser:A0),Le (Wd fu op parserParser) (Mc op parserParser))∧(∀ (o0:A0) (o3:B0),Le (Z7 fu o0 o3) (L6 o0 o3))∧(∀ (o0:A0) (o3:B0),Le (A8 fu o0 o3) (K6 o0 o3))∧(∀ (o0:A0) (x1:B0×A0) (op:Int),Le (K3 fu o0 x1 op) (H3 o0 x1 op))∧(∀ (o0:A0) (o3:B0),Le (B8 fu o0 o3) (J6 o0 o3))∧(∀ (o0:A0) (o3:B0),Le (W9 fu o0 o3) (F8 o0 o3)):=by
 induction fu with
 | zero=>exact ⟨fun _=>Le.none,fun _=>Le.none,fun _=>Le.none,fun _=>Le.none,fun _=>Le.none,fun _=>Le.none,fun _=>Le.none,fun _=>Le.none,fun _=>Le.none,fun _=>Le.none,fun _=>Le.none,fun _=>Le.none,fun _=>Le.none,fun _ _ _ _=>Le.none,fun _ _=>Le.none,fun _ _=>Le.none,fun _ _=>Le.none,fun _ _ _=>Le.none,fun _ _=>Le.none,fun _ _=>Le.none⟩
 | succ fu ih=>
  obtain ⟨ih0,ih1,ih2,ih3,ih4,ih5,ih6,ih7,ih8,ih9,ih10,ih11,ih12,ih13,ih14,ih15,ih16,ih17,ih18,ih19⟩:=ih
  refine ⟨fun parserParser=>?_,fun parserParser=>?_,fun parserParser=>?_,fun parserParser=>?_,fun parserParser=>?_,fun parserParser=>?_,fun parserParser=>?_,fun parserParser=>?_,fun parserParser=>?_,fun parserParser=>?_,fun parserParser=>?_,fun parserParser=>?_,fun parserParser=>?_,fun o0 o2_Op o2_Name o2_Kids=>?_,fun op parserParser=>?_,fun o0 o3=>?_,fun o0 o3=>?_,fun o0 x1 op=>?_,fun o0 o3=>?_,fun o0 o3=>?_⟩
  ·rw [W1,T1]
   repeat (with_reducible first | exact Le.rfl | exact ih0 _ | exact ih1 _ | exact ih2 _ | exact ih3 _ | exact ih4 _ | exact ih5 _ | exact ih6 _ | exact ih7 _ | exact ih8 _ | exact ih9 _ | exact ih10 _ | exact ih11 _ | exact ih12 _ | exact ih13 _ _ _ _ | exact ih14 _ _ | exact ih15 _ _ | exact ih16 _ _ | exact ih17 _ _ _ | exact ih18 _ _ | exact ih19 _ _ | exact Y0 fu _ _ | exact Z0 fu _ _ | exact I1 fu _ | exact R1 fu _ | exact D1 fu _ | exact Q1 fu _ | exact X1 fu _ | exact Y1 fu _ | exact C2 fu _ | exact N0 _ | refine Le.bind ?_ (fun _=>?_) | refine Le.ite ?_ ?_ | (rename_i x; cases x))
  ·rw [Bj,Eh]
   repeat (with_reducible first | exact Le.rfl | exact ih0 _ | exact ih1 _ | exact ih2 _ | exact ih3 _ | exact ih4 _ | exact ih5 _ | exact ih6 _ | exact ih7 _ | exact ih8 _ | exact ih9 _ | exact ih10 _ | exact ih11 _ | exact ih12 _ | exact ih13 _ _ _ _ | exact ih14 _ _ | exact ih15 _ _ | exact ih16 _ _ | exact ih17 _ _ _ | exact ih18 _ _ | exact ih19 _ _ | exact Y0 fu _ _ | exact Z0 fu _ _ | exact I1 fu _ | exact R1 fu _ | exact D1 fu _ | exact Q1 fu _ | exact X1 fu _ | exact Y1 fu _ | exact C2 fu _ | exact N0 _ | refine Le.bind ?_ (fun _=>?_) | refine Le.ite ?_ ?_ | (rename_i x; cases x))
  ·rw [Mg,Qe]
   repeat (with_reducible first | exact Le.rfl | exact ih0 _ | exact ih1 _ | exact ih2 _ | exact ih3 _ | exact ih4 _ | exact ih5 _ | exact ih6 _ | exact ih7 _ | exact ih8 _ | exact ih9 _ | exact ih10 _ | exact ih11 _ | exact ih12 _ | exact ih13 _ _ _ _ | exact ih14 _ _ | exact ih15 _ _ | exact ih16 _ _ | exact ih17 _ _ _ | exact ih18 _ _ | exact ih19 _ _ | exact Y0 fu _ _ | exact Z0 fu _ _ | exact I1 fu _ | exact R1 fu _ | exact D1 fu _ | exact Q1 fu _ | exact X1 fu _ | exact Y1 fu _ | exact C2 fu _ | exact N0 _ | refine Le.bind ?_ (fun _=>?_) | refine Le.ite ?_ ?_ | (rename_i x; cases x))
  ·rw [Re,Kd]
   repeat (with_reducible first | exact Le.rfl | exact ih0 _ | exact ih1 _ | exact ih2 _ | exact ih3 _ | exact ih4 _ | exact ih5 _ | exact ih6 _ | exact ih7 _ | exact ih8 _ | exact ih9 _ | exact ih10 _ | exact ih11 _ | exact ih12 _ | exact ih13 _ _ _ _ | exact ih14 _ _ | exact ih15 _ _ | exact ih16 _ _ | exact ih17 _ _ _ | exact ih18 _ _ | exact ih19 _ _ | exact Y0 fu _ _ | exact Z0 fu _ _ | exact I1 fu _ | exact R1 fu _ | exact D1 fu _ | exact Q1 fu _ | exact X1 fu _ | exact Y1 fu _ | exact C2 fu _ | exact N0 _ | refine Le.bind ?_ (fun _=>?_) | refine Le.ite ?_ ?_ | (rename_i x; cases x))
  ·rw [Je,Nb]
   repeat (with_reducible first | exact Le.rfl | exact ih0 _ | exact ih1 _ | exact ih2 _ | exact ih3 _ | exact ih4 _ | exact ih5 _ | exact ih6 _ | exact ih7 _ | exact ih8 _ | exact ih9 _ | exact ih10 _ | exact ih11 _ | exact ih12 _ | exact ih13 _ _ _ _ | exact ih14 _ _ | exact ih15 _ _ | exact ih16 _ _ | exact ih17 _ _ _ | exact ih18 _ _ | exact ih19 _ _ | exact Y0 fu _ _ | exact Z0 fu _ _ | exact I1 fu _ | exact R1 fu _ | exact D1 fu _ | exact Q1 fu _ | exact X1 fu _ | exact Y1 fu _ | exact C2 fu _ | exact N0 _ | refine Le.bind ?_ (fun _=>?_) | refine Le.ite ?_ ?_ | (rename_i x; cases x))
  ·rw [T8,E7]
   repeat (with_reducible first | exact Le.rfl | exact ih0 _ | exact ih1 _ | exact ih2 _ | exact ih3 _ | exact ih4 _ | exact ih5 _ | exact ih6 _ | exact ih7 _ | exact ih8 _ | exact ih9 _ | exact ih10 _ | exact ih11 _ | exact ih12 _ | exact ih13 _ _ _ _ | exact ih14 _ _ | exact ih15 _ _ | exact ih16 _ _ | exact ih17 _ _ _ | exact ih18 _ _ | exact ih19 _ _ | exact Y0 fu _ _ | exact Z0 fu _ _ | exact I1 fu _ | exact R1 fu _ | exact D1 fu _ | exact Q1 fu _ | exact X1 fu _ | exact Y1 fu _ | exact C2 fu _ | exact N0 _ | refine Le.bind ?_ (fun _=>?_) | refine Le.ite ?_ ?_ | (rename_i x; cases x))
  ·rw [Se,Ld]
   repeat (with_reducible first | exact Le.rfl | exact ih0 _ | exact ih1 _ | exact ih2 _ | exact ih3 _ | exact ih4 _ | exact ih5 _ | exact ih6 _ | exact ih7 _ | exact ih8 _ | exact ih9 _ | exact ih10 _ | exact ih11 _ | exact ih12 _ | exact ih13 _ _ _ _ | exact ih14 _ _ | exact ih15 _ _ | exact ih16 _ _ | exact ih17 _ _ _ | exact ih18 _ _ | exact ih19 _ _ | exact Y0 fu _ _ | exact Z0 fu _ _ | exact I1 fu _ | exact R1 fu _ | exact D1 fu _ | exact Q1 fu _ | exact X1 fu _ | exact Y1 fu _ | exact C2 fu _ | exact N0 _ | refine Le.bind ?_ (fun _=>?_) | refine Le.ite ?_ ?_ | (rename_i x; cases x))
  ·rw [Ke,Pb]
   repeat (with_reducible first | exact Le.rfl | exact ih0 _ | exact ih1 _ | exact ih2 _ | exact ih3 _ | exact ih4 _ | exact ih5 _ | exact ih6 _ | exact ih7 _ | exact ih8 _ | exact ih9 _ | exact ih10 _ | exact ih11 _ | exact ih12 _ | exact ih13 _ _ _ _ | exact ih14 _ _ | exact ih15 _ _ | exact ih16 _ _ | exact ih17 _ _ _ | exact ih18 _ _ | exact ih19 _ _ | exact Y0 fu _ _ | exact Z0 fu _ _ | exact I1 fu _ | exact R1 fu _ | exact D1 fu _ | exact Q1 fu _ | exact X1 fu _ | exact Y1 fu _ | exact C2 fu _ | exact N0 _ | refine Le.bind ?_ (fun _=>?_) | refine Le.ite ?_ ?_ | (rename_i x; cases x))
  ·rw [Oa,A9]
   repeat (with_reducible first | exact Le.rfl | exact ih0 _ | exact ih1 _ | exact ih2 _ | exact ih3 _ | exact ih4 _ | exact ih5 _ | exact ih6 _ | exact ih7 _ | exact ih8 _ | exact ih9 _ | exact ih10 _ | exact ih11 _ | exact ih12 _ | exact ih13 _ _ _ _ | exact ih14 _ _ | exact ih15 _ _ | exact ih16 _ _ | exact ih17 _ _ _ | exact ih18 _ _ | exact ih19 _ _ | exact Y0 fu _ _ | exact Z0 fu _ _ | exact I1 fu _ | exact R1 fu _ | exact D1 fu _ | exact Q1 fu _ | exact X1 fu _ | exact Y1 fu _ | exact C2 fu _ | exact N0 _ | refine Le.bind ?_ (fun _=>?_) | refine Le.ite ?_ ?_ | (rename_i x; cases x))
  ·rw [Me,Qb]
   repeat (with_reducible first | exact Le.rfl | exact ih0 _ | exact ih1 _ | exact ih2 _ | exact ih3 _ | exact ih4 _ | exact ih5 _ | exact ih6 _ | exact ih7 _ | exact ih8 _ | exact ih9 _ | exact ih10 _ | exact ih11 _ | exact ih12 _ | exact ih13 _ _ _ _ | exact ih14 _ _ | exact ih15 _ _ | exact ih16 _ _ | exact ih17 _ _ _ | exact ih18 _ _ | exact ih19 _ _ | exact Y0 fu _ _ | exact Z0 fu _ _ | exact I1 fu _ | exact R1 fu _ | exact D1 fu _ | exact Q1 fu _ | exact X1 fu _ | exact Y1 fu _ | exact C2 fu _ | exact N0 _ | refine Le.bind ?_ (fun _=>?_) | refine Le.ite ?_ ?_ | (rename_i x; cases x))
  ·rw [S6,G6]
   repeat (with_reducible first | exact Le.rfl | exact ih0 _ | exact ih1 _ | exact ih2 _ | exact ih3 _ | exact ih4 _ | exact ih5 _ | exact ih6 _ | exact ih7 _ | exact ih8 _ | exact ih9 _ | exact ih10 _ | exact ih11 _ | exact ih12 _ | exact ih13 _ _ _ _ | exact ih14 _ _ | exact ih15 _ _ | exact ih16 _ _ | exact ih17 _ _ _ | exact ih18 _ _ | exact ih19 _ _ | exact Y0 fu _ _ | exact Z0 fu _ _ | exact I1 fu _ | exact R1 fu _ | exact D1 fu _ | exact Q1 fu _ | exact X1 fu _ | exact Y1 fu _ | exact C2 fu _ | exact N0 _ | refine Le.bind ?_ (fun _=>?_) | refine Le.ite ?_ ?_ | (rename_i x; cases x))
  ·rw [Ve,Cd]
   repeat (with_reducible first | exact Le.rfl | exact ih0 _ | exact ih1 _ | exact ih2 _ | exact ih3 _ | exact ih4 _ | exact ih5 _ | exact ih6 _ | exact ih7 _ | exact ih8 _ | exact ih9 _ | exact ih10 _ | exact ih11 _ | exact ih12 _ | exact ih13 _ _ _ _ | exact ih14 _ _ | exact ih15 _ _ | exact ih16 _ _ | exact ih17 _ _ _ | exact ih18 _ _ | exact ih19 _ _ | exact Y0 fu _ _ | exact Z0 fu _ _ | exact I1 fu _ | exact R1 fu _ | exact D1 fu _ | exact Q1 fu _ | exact X1 fu _ | exact Y1 fu _ | exact C2 fu _ | exact N0 _ | refine Le.bind ?_ (fun _=>?_) | refine Le.ite ?_ ?_ | (rename_i x; cases x))
  ·rw [I9,H6]
   repeat (with_reducible first | exact Le.rfl | exact ih0 _ | exact ih1 _ | exact ih2 _ | exact ih3 _ | exact ih4 _ | exact ih5 _ | exact ih6 _ | exact ih7 _ | exact ih8 _ | exact ih9 _ | exact ih10 _ | exact ih11 _ | exact ih12 _ | exact ih13 _ _ _ _ | exact ih14 _ _ | exact ih15 _ _ | exact ih16 _ _ | exact ih17 _ _ _ | exact ih18 _ _ | exact ih19 _ _ | exact Y0 fu _ _ | exact Z0 fu _ _ | exact I1 fu _ | exact R1 fu _ | exact D1 fu _ | exact Q1 fu _ | exact X1 fu _ | exact Y1 fu _ | exact C2 fu _ | exact N0 _ | refine Le.bind ?_ (fun _=>?_) | refine Le.ite ?_ ?_ | (rename_i x; cases x))
  ·rw [K7,C6]
   repeat (with_reducible first | exact Le.rfl | exact ih0 _ | exact ih1 _ | exact ih2 _ | exact ih3 _ | exact ih4 _ | exact ih5 _ | exact ih6 _ | exact ih7 _ | exact ih8 _ | exact ih9 _ | exact ih10 _ | exact ih11 _ | exact ih12 _ | exact ih13 _ _ _ _ | exact ih14 _ _ | exact ih15 _ _ | exact ih16 _ _ | exact ih17 _ _ _ | exact ih18 _ _ | exact ih19 _ _ | exact Y0 fu _ _ | exact Z0 fu _ _ | exact I1 fu _ | exact R1 fu _ | exact D1 fu _ | exact Q1 fu _ | exact X1 fu _ | exact Y1 fu _ | exact C2 fu _ | exact N0 _ | refine Le.bind ?_ (fun _=>?_) | refine Le.ite ?_ ?_ | (rename_i x; cases x))
  ·rw [Wd,Mc]
   repeat (with_reducible first | exact Le.rfl | exact ih0 _ | exact ih1 _ | exact ih2 _ | exact ih3 _ | exact ih4 _ | exact ih5 _ | exact ih6 _ | exact ih7 _ | exact ih8 _ | exact ih9 _ | exact ih10 _ | exact ih11 _ | exact ih12 _ | exact ih13 _ _ _ _ | exact ih14 _ _ | exact ih15 _ _ | exact ih16 _ _ | exact ih17 _ _ _ | exact ih18 _ _ | exact ih19 _ _ | exact Y0 fu _ _ | exact Z0 fu _ _ | exact I1 fu _ | exact R1 fu _ | exact D1 fu _ | exact Q1 fu _ | exact X1 fu _ | exact Y1 fu _ | exact C2 fu _ | exact N0 _ | refine Le.bind ?_ (fun _=>?_) | refine Le.ite ?_ ?_ | (rename_i x; cases x))
  ·rw [Z7,L6]
   repeat (with_reducible first | exact Le.rfl | exact ih0 _ | exact ih1 _ | exact ih2 _ | exact ih3 _ | exact ih4 _ | exact ih5 _ | exact ih6 _ | exact ih7 _ | exact ih8 _ | exact ih9 _ | exact ih10 _ | exact ih11 _ | exact ih12 _ | exact ih13 _ _ _ _ | exact ih14 _ _ | exact ih15 _ _ | exact ih16 _ _ | exact ih17 _ _ _ | exact ih18 _ _ | exact ih19 _ _ | exact Y0 fu _ _ | exact Z0 fu _ _ | exact I1 fu _ | exact R1 fu _ | exact D1 fu _ | exact Q1 fu _ | exact X1 fu _ | exact Y1 fu _ | exact C2 fu _ | exact N0 _ | refine Le.bind ?_ (fun _=>?_) | refine Le.ite ?_ ?_ | (rename_i x; cases x))
  ·rw [A8,K6]
   repeat (with_reducible first | exact Le.rfl | exact ih0 _ | exact ih1 _ | exact ih2 _ | exact ih3 _ | exact ih4 _ | exact ih5 _ | exact ih6 _ | exact ih7 _ | exact ih8 _ | exact ih9 _ | exact ih10 _ | exact ih11 _ | exact ih12 _ | exact ih13 _ _ _ _ | exact ih14 _ _ | exact ih15 _ _ | exact ih16 _ _ | exact ih17 _ _ _ | exact ih18 _ _ | exact ih19 _ _ | exact Y0 fu _ _ | exact Z0 fu _ _ | exact I1 fu _ | exact R1 fu _ | exact D1 fu _ | exact Q1 fu _ | exact X1 fu _ | exact Y1 fu _ | exact C2 fu _ | exact N0 _ | refine Le.bind ?_ (fun _=>?_) | refine Le.ite ?_ ?_ | (rename_i x; cases x))
  ·rw [K3,H3]
   repeat (with_reducible first | exact Le.rfl | exact ih0 _ | exact ih1 _ | exact ih2 _ | exact ih3 _ | exact ih4 _ | exact ih5 _ | exact ih6 _ | exact ih7 _ | exact ih8 _ | exact ih9 _ | exact ih10 _ | exact ih11 _ | exact ih12 _ | exact ih13 _ _ _ _ | exact ih14 _ _ | exact ih15 _ _ | exact ih16 _ _ | exact ih17 _ _ _ | exact ih18 _ _ | exact ih19 _ _ | exact Y0 fu _ _ | exact Z0 fu _ _ | exact I1 fu _ | exact R1 fu _ | exact D1 fu _ | exact Q1 fu _ | exact X1 fu _ | exact Y1 fu _ | exact C2 fu _ | exact N0 _ | refine Le.bind ?_ (fun _=>?_) | refine Le.ite ?_ ?_ | (rename_i x; cases x))
  ·rw [B8,J6]
   repeat (with_reducible first | exact Le.rfl | exact ih0 _ | exact ih1 _ | exact ih2 _ | exact ih3 _ | exact ih4 _ | exact ih5 _ | exact ih6 _ | exact ih7 _ | exact ih8 _ | exact ih9 _ | exact ih10 _ | exact ih11 _ | exact ih12 _ | exact ih13 _ _ _ _ | exact ih14 _ _ | exact ih15 _ _ | exact ih16 _ _ | exact ih17 _ _ _ | exact ih18 _ _ | exact ih19 _ _ | exact Y0 fu _ _ | exact Z0 fu _ _ | exact I1 fu _ | exact R1 fu _ | exact D1 fu _ | exact Q1 fu _ | exact X1 fu _ | exact Y1 fu _ | exact C2 fu _ | exact N0 _ | refine Le.bind ?_ (fun _=>?_) | refine Le.ite ?_ ?_ | (rename_i x; cases x))
  ·rw [W9,F8]
   repeat (with_reducible first | exact Le.rfl | exact ih0 _ | exact ih1 _ | exact ih2 _ | exact ih3 _ | exact ih4 _ | exact ih5 _ | exact ih6 _ | exact ih7 _ | exact ih8 _ | exact ih9 _ | exact ih10 _ | exact ih11 _ | exact ih12 _ | exact ih13 _ _ _ _ | exact ih14 _ _ | exact ih15 _ _ | exact ih16 _ _ | exact ih17 _ _ _ | exact ih18 _ _ | exact ih19 _ _ | exact Y0 fu _ _ | exact Z0 fu _ _ | exact I1 fu _ | exact R1 fu _ | exact D1 fu _ | exact Q1 fu _ | exact X1 fu _ | exact Y1 fu _ | exact C2 fu _ | exact N0 _ | refine Le.bind ?_ (fun _=>?_) | refine Le.ite ?_ ?_ | (rename_i x; cases x))
theorem V3 (fu:Nat)(parserParser:A0):Le (W1 fu parserParser) (T1 parserParser):=(Ng fu).1 parserParser
theorem Ss (fu:Nat)(parserParser:A0):Le (I9 fu parserParser) (H6 parserParser):=(Ng fu).2.2.2.2.2.2.2.2.2.2.2.2.1 parserParser
def F5:Nat→A0→(B0×A0)→(Str×A0)→(List B0)→Option (Pn (J0×A0))
 | 0,_,_,_,_=>none
 | fu+1,o0,x1,x4,o2_Args=>
  P0 fu [44] o0>>=fun x13=>
  if x13.1=true then
   W1 fu x13.2>>=fun x14=>match x14 with
   | .pn nn=>
   some (.pn nn)
   | .ok x14=>
   if (decide ((o2_Args.length+1) * 57≤140737488355328))=true then
    F5 fu x14.2 x1 x4 (o2_Args++[x14.1])
   else none
  else
   R0 fu [41] x13.2>>=fun x8=>match x8 with
   | .pn nn=>
   some (.pn nn)
   | .ok x8=>
   R0 fu [59] x8>>=fun x9=>match x9 with
   | .pn nn=>
   some (.pn nn)
   | .ok x9=>
   some (.ok ((J0.mk 1 x1.1 (B0.mk 0 0 [] []) x4.1 o2_Args 0 0 0 [] [] []),x9))
theorem Bl (fu:Nat):(∀ (o0:A0) (x1:B0×A0) (x4:Str×A0) (o2_Args:List B0),Le (F5 fu o0 x1 x4 o2_Args) (U3 o0 x1 x4 o2_Args)):=by
 induction fu with
 | zero=>exact fun _ _ _ _=>Le.none
 | succ fu ih=>
  have ih0:=ih
  refine fun o0 x1 x4 o2_Args=>?_
  ·rw [F5,U3]
   repeat (with_reducible first | exact Le.rfl | exact ih0 _ _ _ _ | exact Y0 fu _ _ | exact V3 fu _ | exact Z0 fu _ _ | exact N0 _ | refine Le.bind ?_ (fun _=>?_) | refine Le.ite ?_ ?_ | (rename_i x; cases x))
theorem Vl (fu:Nat)(o0:A0)(x1:B0×A0)(x4:Str×A0)(o2_Args:List B0):Le (F5 fu o0 x1 x4 o2_Args) (U3 o0 x1 x4 o2_Args):=(Bl fu) o0 x1 x4 o2_Args
def Ka (fu:Nat)(x7:B0×A0)(x1:B0×A0)(x4:Str×A0):Option (Pn (J0×A0)):=
 F5 fu x7.2 x1 x4 [x7.1]
theorem Wl (fu:Nat)(x7:B0×A0)(x1:B0×A0)(x4:Str×A0):Le (Ka fu x7 x1 x4) (L5 x7 x1 x4):=by
 unfold Ka L5
 repeat (with_reducible first | exact Le.rfl | exact Vl fu _ _ _ _ | exact N0 _ | refine Le.bind ?_ (fun _=>?_) | refine Le.ite ?_ ?_ | (rename_i x; cases x))
def Jd (fu:Nat)(parserParser:A0):Option (Pn (J0×A0)):=
 I9 fu parserParser>>=fun x1=>match x1 with
 | .pn nn=>
 some (.pn nn)
 | .ok x1=>
 R0 fu [61] x1.2>>=fun x2=>match x2 with
 | .pn nn=>
 some (.pn nn)
 | .ok x2=>
 P0 fu [99,97,108,108] x2>>=fun x3=>
 if x3.1=true then
  P3 fu x3.2>>=fun x4=>match x4 with
  | .pn nn=>
  some (.pn nn)
  | .ok x4=>
  R0 fu [40] x4.2>>=fun x5=>match x5 with
  | .pn nn=>
  some (.pn nn)
  | .ok x5=>
  Gf fu [41] x5>>=fun x6=>
  if (!x6)=true then
   W1 fu x5>>=fun x7=>match x7 with
   | .pn nn=>
   some (.pn nn)
   | .ok x7=>
   if (decide ((0+1) * 57≤140737488355328))=true then
    Ka fu x7 x1 x4
   else none
  else
   R0 fu [41] x5>>=fun x8=>match x8 with
   | .pn nn=>
   some (.pn nn)
   | .ok x8=>
   R0 fu [59] x8>>=fun x9=>match x9 with
   | .pn nn=>
   some (.pn nn)
   | .ok x9=>
   some (.ok ((J0.mk 1 x1.1 (B0.mk 0 0 [] []) x4.1 [] 0 0 0 [] [] []),x9))
 else
  P0 fu [114,101,108,101,97,115,101] x3.2>>=fun x10=>
  if x10.1=true then
   P3 fu x10.2>>=fun x11=>match x11 with
   | .pn nn=>
   some (.pn nn)
   | .ok x11=>
   R0 fu [59] x11.2>>=fun x9=>match x9 with
   | .pn nn=>
   some (.pn nn)
   | .ok x9=>
   some (.ok ((J0.mk 2 x1.1 (B0.mk 0 0 [] []) x11.1 [] 0 0 0 [] [] []),x9))
  else
   W1 fu x10.2>>=fun x12=>match x12 with
   | .pn nn=>
   some (.pn nn)
   | .ok x12=>
   R0 fu [59] x12.2>>=fun x9=>match x9 with
   | .pn nn=>
   some (.pn nn)
   | .ok x9=>
   some (.ok ((J0.mk 0 x1.1 x12.1 [] [] 0 0 0 [] [] []),x9))
theorem C8 (fu:Nat)(parserParser:A0):Le (Jd fu parserParser) (F7 parserParser):=by
 unfold Jd F7
 repeat (with_reducible first | exact Le.rfl | exact Ss fu _ | exact Z0 fu _ _ | exact Y0 fu _ _ | exact D1 fu _ | exact Mm fu _ _ | exact V3 fu _ | exact Wl fu _ _ _ | exact N0 _ | refine Le.bind ?_ (fun _=>?_) | refine Le.ite ?_ ?_ | (rename_i x; cases x))
def H5:Nat→A0→(List Int)→Option (Pn (J0×Bool×A0))
 | 0,_,_=>none
 | fu+1,o0,o2_Numbers=>
  P0 fu [44] o0>>=fun x23=>
  if x23.1=true then
   Z2 fu x23.2>>=fun x24=>match x24 with
   | .pn nn=>
   some (.pn nn)
   | .ok x24=>
   if (decide ((o2_Numbers.length+1) * 9≤140737488355328))=true then
    H5 fu x24.2 (o2_Numbers++[x24.1])
   else none
  else
   R0 fu [59] x23.2>>=fun x25=>match x25 with
   | .pn nn=>
   some (.pn nn)
   | .ok x25=>
   some (.ok ((J0.mk 8 (B0.mk 0 0 [] []) (B0.mk 0 0 [] []) [] [] 0 0 0 o2_Numbers [] []),true,x25))
theorem Xl (fu:Nat):(∀ (o0:A0) (o2_Numbers:List Int),Le (H5 fu o0 o2_Numbers) (X3 o0 o2_Numbers)):=by
 induction fu with
 | zero=>exact fun _ _=>Le.none
 | succ fu ih=>
  have ih0:=ih
  refine fun o0 o2_Numbers=>?_
  ·rw [H5,X3]
   repeat (with_reducible first | exact Le.rfl | exact ih0 _ _ | exact Y0 fu _ _ | exact I4 fu _ | exact Z0 fu _ _ | exact N0 _ | refine Le.bind ?_ (fun _=>?_) | refine Le.ite ?_ ?_ | (rename_i x; cases x))
theorem X6 (fu:Nat)(o0:A0)(o2_Numbers:List Int):Le (H5 fu o0 o2_Numbers) (X3 o0 o2_Numbers):=(Xl fu) o0 o2_Numbers
mutual
def A5:Nat→A0→Option (Pn (List J0×A0))
 | 0,_=>none
 | fu+1,parserParser=>
  Y6 fu parserParser []
def Y6:Nat→A0→(List J0)→Option (Pn (List J0×A0))
 | 0,_,_=>none
 | fu+1,o0,out=>
  Xd fu o0>>=fun x1=>match x1 with
  | .pn nn=>
  some (.pn nn)
  | .ok x1=>
  if (!x1.2.1)=true then
   some (.ok (out,x1.2.2))
  else
   if (decide ((out.length+1) * 257≤140737488355328))=true then
    Y6 fu x1.2.2 (out++[x1.1])
   else none
def Xd:Nat→A0→Option (Pn (J0×Bool×A0))
 | 0,_=>none
 | fu+1,parserParser=>
  Q8 fu parserParser>>=fun x1=>
  if x1=true then
   Jd fu parserParser>>=fun x2=>match x2 with
   | .pn nn=>
   some (.pn nn)
   | .ok x2=>
   some (.ok (x2.1,true,x2.2))
  else
   P0 fu [111,117,116,112,117,116] parserParser>>=fun x3=>
   if x3.1=true then
    W1 fu x3.2>>=fun x4=>match x4 with
    | .pn nn=>
    some (.pn nn)
    | .ok x4=>
    R0 fu [59] x4.2>>=fun x5=>match x5 with
    | .pn nn=>
    some (.pn nn)
    | .ok x5=>
    some (.ok ((J0.mk 3 (B0.mk 0 0 [] []) x4.1 [] [] 0 0 0 [] [] []),true,x5))
   else
    P0 fu [119,97,105,116] x3.2>>=fun x6=>
    if x6.1=true then
     Z2 fu x6.2>>=fun x7=>match x7 with
     | .pn nn=>
     some (.pn nn)
     | .ok x7=>
     R0 fu [59] x7.2>>=fun x8=>match x8 with
     | .pn nn=>
     some (.pn nn)
     | .ok x8=>
     some (.ok ((J0.mk 4 (B0.mk 0 0 [] []) (B0.mk 0 0 [] []) [] [] x7.1 0 0 [] [] []),true,x8))
    else
     P0 fu [115,101,116,116,108,101] x6.2>>=fun x9=>
     if x9.1=true then
      Z2 fu x9.2>>=fun x10=>match x10 with
      | .pn nn=>
      some (.pn nn)
      | .ok x10=>
      H5 fu x10.2 [x10.1]
     else
      P0 fu [105,102] x9.2>>=fun x11=>
      if x11.1=true then
       W1 fu x11.2>>=fun x12=>match x12 with
       | .pn nn=>
       some (.pn nn)
       | .ok x12=>
       T6 fu x12.2>>=fun x26=>match x26 with
       | .pn nn=>
       some (.pn nn)
       | .ok x26=>
       P0 fu [101,108,115,101] x26.2>>=fun x27=>
       if x27.1=true then
        T6 fu x27.2>>=fun x28=>match x28 with
        | .pn nn=>
        some (.pn nn)
        | .ok x28=>
        some (.ok ((J0.mk 5 (B0.mk 0 0 [] []) x12.1 [] [] 0 0 0 [] x26.1 x28.1),true,x28.2))
       else
        some (.ok ((J0.mk 5 (B0.mk 0 0 [] []) x12.1 [] [] 0 0 0 [] x26.1 []),true,x27.2))
      else
       P0 fu [119,104,105,108,101] x11.2>>=fun x13=>
       if x13.1=true then
        W1 fu x13.2>>=fun x14=>match x14 with
        | .pn nn=>
        some (.pn nn)
        | .ok x14=>
        R0 fu [108,105,109,105,116] x14.2>>=fun x15=>match x15 with
        | .pn nn=>
        some (.pn nn)
        | .ok x15=>
        Z2 fu x15>>=fun x16=>match x16 with
        | .pn nn=>
        some (.pn nn)
        | .ok x16=>
        T6 fu x16.2>>=fun x29=>match x29 with
        | .pn nn=>
        some (.pn nn)
        | .ok x29=>
        some (.ok ((J0.mk 6 (B0.mk 0 0 [] []) x14.1 [] [] x16.1 0 0 [] x29.1 []),true,x29.2))
       else
        P0 fu [102,111,114] x13.2>>=fun x17=>
        if x17.1=true then
         P3 fu x17.2>>=fun x18=>match x18 with
         | .pn nn=>
         some (.pn nn)
         | .ok x18=>
         R0 fu [61] x18.2>>=fun x19=>match x19 with
         | .pn nn=>
         some (.pn nn)
         | .ok x19=>
         Z2 fu x19>>=fun x20=>match x20 with
         | .pn nn=>
         some (.pn nn)
         | .ok x20=>
         R0 fu [116,111] x20.2>>=fun x21=>match x21 with
         | .pn nn=>
         some (.pn nn)
         | .ok x21=>
         Z2 fu x21>>=fun x22=>match x22 with
         | .pn nn=>
         some (.pn nn)
         | .ok x22=>
         T6 fu x22.2>>=fun x30=>match x30 with
         | .pn nn=>
         some (.pn nn)
         | .ok x30=>
         some (.ok ((J0.mk 7 (B0.mk 0 0 [] []) (B0.mk 0 0 [] []) x18.1 [] 0 x20.1 x22.1 [] x30.1 []),true,x30.2))
        else
         some (.ok ((J0.mk 0 (B0.mk 0 0 [] []) (B0.mk 0 0 [] []) [] [] 0 0 0 [] [] []),false,x17.2))
def T6:Nat→A0→Option (Pn (List J0×A0))
 | 0,_=>none
 | fu+1,parserParser=>
  R0 fu [123] parserParser>>=fun x1=>match x1 with
  | .pn nn=>
  some (.pn nn)
  | .ok x1=>
  A5 fu x1>>=fun x2=>match x2 with
  | .pn nn=>
  some (.pn nn)
  | .ok x2=>
  R0 fu [125] x2.2>>=fun x3=>match x3 with
  | .pn nn=>
  some (.pn nn)
  | .ok x3=>
  some (.ok (x2.1,x3))
end
theorem Fn (fu:Nat):(∀ (parserParser:A0),Le (A5 fu parserParser) (W3 parserParser))∧(∀ (o0:A0) (out:List J0),Le (Y6 fu o0 out) (M5 o0 out))∧(∀ (parserParser:A0),Le (Xd fu parserParser) (Ma parserParser))∧(∀ (parserParser:A0),Le (T6 fu parserParser) (I6 parserParser)):=by
 induction fu with
 | zero=>exact ⟨fun _=>Le.none,fun _ _=>Le.none,fun _=>Le.none,fun _=>Le.none⟩
 | succ fu ih=>
  obtain ⟨ih0,ih1,ih2,ih3⟩:=ih
  refine ⟨fun parserParser=>?_,fun o0 out=>?_,fun parserParser=>?_,fun parserParser=>?_⟩
  ·rw [A5,W3]
   repeat (with_reducible first | exact Le.rfl | exact ih0 _ | exact ih1 _ _ | exact ih2 _ | exact ih3 _ | exact I1 fu _ | exact C8 fu _ | exact Y0 fu _ _ | exact V3 fu _ | exact Z0 fu _ _ | exact I4 fu _ | exact X6 fu _ _ | exact D1 fu _ | exact N0 _ | refine Le.bind ?_ (fun _=>?_) | refine Le.ite ?_ ?_ | (rename_i x; cases x))
  ·rw [Y6,M5]
   repeat (with_reducible first | exact Le.rfl | exact ih0 _ | exact ih1 _ _ | exact ih2 _ | exact ih3 _ | exact I1 fu _ | exact C8 fu _ | exact Y0 fu _ _ | exact V3 fu _ | exact Z0 fu _ _ | exact I4 fu _ | exact X6 fu _ _ | exact D1 fu _ | exact N0 _ | refine Le.bind ?_ (fun _=>?_) | refine Le.ite ?_ ?_ | (rename_i x; cases x))
  ·rw [Xd,Ma]
   repeat (with_reducible first | exact Le.rfl | exact ih0 _ | exact ih1 _ _ | exact ih2 _ | exact ih3 _ | exact I1 fu _ | exact C8 fu _ | exact Y0 fu _ _ | exact V3 fu _ | exact Z0 fu _ _ | exact I4 fu _ | exact X6 fu _ _ | exact D1 fu _ | exact N0 _ | refine Le.bind ?_ (fun _=>?_) | refine Le.ite ?_ ?_ | (rename_i x; cases x))
  ·rw [T6,I6]
   repeat (with_reducible first | exact Le.rfl | exact ih0 _ | exact ih1 _ _ | exact ih2 _ | exact ih3 _ | exact I1 fu _ | exact C8 fu _ | exact Y0 fu _ _ | exact V3 fu _ | exact Z0 fu _ _ | exact I4 fu _ | exact X6 fu _ _ | exact D1 fu _ | exact N0 _ | refine Le.bind ?_ (fun _=>?_) | refine Le.ite ?_ ?_ | (rename_i x; cases x))
theorem Tg (fu:Nat)(parserParser:A0):Le (A5 fu parserParser) (W3 parserParser):=(Fn fu).1 parserParser
def O5:Nat→A0→(Str×A0)→(L0×A0)→(List E0)→(List E0)→Option (Pn (E0×A0))
 | 0,_,_,_,_,_=>none
 | fu+1,o02,x1,x7,o2_Params2,o2_Vars=>
  P0 fu [118,97,114] o02>>=fun x9=>
  if x9.1=true then
   V9 fu x9.2>>=fun x10=>match x10 with
   | .pn nn=>
   some (.pn nn)
   | .ok x10=>
   if (decide ((o2_Vars.length+1) * 257≤140737488355328))=true then
    O5 fu x10.2 x1 x7 o2_Params2 (o2_Vars++[x10.1])
   else none
  else
   A5 fu x9.2>>=fun x11=>match x11 with
   | .pn nn=>
   some (.pn nn)
   | .ok x11=>
   R0 fu [114,101,116,117,114,110] x11.2>>=fun x12=>match x12 with
   | .pn nn=>
   some (.pn nn)
   | .ok x12=>
   W1 fu x12>>=fun x13=>match x13 with
   | .pn nn=>
   some (.pn nn)
   | .ok x13=>
   R0 fu [59] x13.2>>=fun x14=>match x14 with
   | .pn nn=>
   some (.pn nn)
   | .ok x14=>
   R0 fu [125] x14>>=fun x15=>match x15 with
   | .pn nn=>
   some (.pn nn)
   | .ok x15=>
   some (.ok ((E0.mk 6 x1.1 x7.1 0 x13.1 o2_Params2 o2_Vars x11.1),x15))
theorem Gm (fu:Nat):(∀ (o02:A0) (x1:Str×A0) (x7:L0×A0) (o2_Params2:List E0) (o2_Vars:List E0),Le (O5 fu o02 x1 x7 o2_Params2 o2_Vars) (A4 o02 x1 x7 o2_Params2 o2_Vars)):=by
 induction fu with
 | zero=>exact fun _ _ _ _ _=>Le.none
 | succ fu ih=>
  have ih0:=ih
  refine fun o02 x1 x7 o2_Params2 o2_Vars=>?_
  ·rw [O5,A4]
   repeat (with_reducible first | exact Le.rfl | exact ih0 _ _ _ _ _ | exact Y0 fu _ _ | exact Ii fu _ | exact Tg fu _ | exact Z0 fu _ _ | exact V3 fu _ | exact N0 _ | refine Le.bind ?_ (fun _=>?_) | refine Le.ite ?_ ?_ | (rename_i x; cases x))
theorem Gn (fu:Nat)(o02:A0)(x1:Str×A0)(x7:L0×A0)(o2_Params2:List E0)(o2_Vars:List E0):Le (O5 fu o02 x1 x7 o2_Params2 o2_Vars) (A4 o02 x1 x7 o2_Params2 o2_Vars):=(Gm fu) o02 x1 x7 o2_Params2 o2_Vars
def D8 (fu:Nat)(o01:A0)(x1:Str×A0)(o2_Params1:List E0):Option (Pn (E0×A0)):=
 R0 fu [41] o01>>=fun x5=>match x5 with
 | .pn nn=>
 some (.pn nn)
 | .ok x5=>
 R0 fu [58] x5>>=fun x6=>match x6 with
 | .pn nn=>
 some (.pn nn)
 | .ok x6=>
 G5 fu x6>>=fun x7=>match x7 with
 | .pn nn=>
 some (.pn nn)
 | .ok x7=>
 R0 fu [123] x7.2>>=fun x8=>match x8 with
 | .pn nn=>
 some (.pn nn)
 | .ok x8=>
 O5 fu x8 x1 x7 o2_Params1 []
theorem Og (fu:Nat)(o01:A0)(x1:Str×A0)(o2_Params1:List E0):Le (D8 fu o01 x1 o2_Params1) (E5 o01 x1 o2_Params1):=by
 unfold D8 E5
 repeat (with_reducible first | exact Le.rfl | exact Z0 fu _ _ | exact Qh fu _ | exact Gn fu _ _ _ _ _ | exact N0 _ | refine Le.bind ?_ (fun _=>?_) | refine Le.ite ?_ ?_ | (rename_i x; cases x))
def P5:Nat→A0→(Str×A0)→(List E0)→Option (Pn (E0×A0))
 | 0,_,_,_=>none
 | fu+1,o0,x1,o2_Params=>
  P0 fu [44] o0>>=fun x16=>
  if x16.1=true then
   O4 fu 4 x16.2>>=fun x17=>match x17 with
   | .pn nn=>
   some (.pn nn)
   | .ok x17=>
   if (decide ((o2_Params.length+1) * 257≤140737488355328))=true then
    P5 fu x17.2 x1 (o2_Params++[x17.1])
   else none
  else
   D8 fu x16.2 x1 o2_Params
theorem Im (fu:Nat):(∀ (o0:A0) (x1:Str×A0) (o2_Params:List E0),Le (P5 fu o0 x1 o2_Params) (B4 o0 x1 o2_Params)):=by
 induction fu with
 | zero=>exact fun _ _ _=>Le.none
 | succ fu ih=>
  have ih0:=ih
  refine fun o0 x1 o2_Params=>?_
  ·rw [P5,B4]
   repeat (with_reducible first | exact Le.rfl | exact ih0 _ _ _ | exact Y0 fu _ _ | exact Tb fu _ _ | exact Og fu _ _ _ | exact N0 _ | refine Le.bind ?_ (fun _=>?_) | refine Le.ite ?_ ?_ | (rename_i x; cases x))
theorem Hn (fu:Nat)(o0:A0)(x1:Str×A0)(o2_Params:List E0):Le (P5 fu o0 x1 o2_Params) (B4 o0 x1 o2_Params):=(Im fu) o0 x1 o2_Params
def Tc (fu:Nat)(x4:E0×A0)(x1:Str×A0):Option (Pn (E0×A0)):=
 P5 fu x4.2 x1 [x4.1]
theorem Jn (fu:Nat)(x4:E0×A0)(x1:Str×A0):Le (Tc fu x4 x1) (M6 x4 x1):=by
 unfold Tc M6
 repeat (with_reducible first | exact Le.rfl | exact Hn fu _ _ _ | exact N0 _ | refine Le.bind ?_ (fun _=>?_) | refine Le.ite ?_ ?_ | (rename_i x; cases x))
def Oe (fu:Nat)(parserParser:A0):Option (Pn (E0×A0)):=
 P3 fu parserParser>>=fun x1=>match x1 with
 | .pn nn=>
 some (.pn nn)
 | .ok x1=>
 R0 fu [40] x1.2>>=fun x2=>match x2 with
 | .pn nn=>
 some (.pn nn)
 | .ok x2=>
 Q8 fu x2>>=fun x3=>
 if x3=true then
  O4 fu 4 x2>>=fun x4=>match x4 with
  | .pn nn=>
  some (.pn nn)
  | .ok x4=>
  if (decide ((0+1) * 257≤140737488355328))=true then
   Tc fu x4 x1
  else none
 else
  D8 fu x2 x1 []
theorem Cq (fu:Nat)(parserParser:A0):Le (Oe fu parserParser) (G8 parserParser):=by
 unfold Oe G8
 repeat (with_reducible first | exact Le.rfl | exact D1 fu _ | exact Z0 fu _ _ | exact I1 fu _ | exact Tb fu _ _ | exact Jn fu _ _ | exact Og fu _ _ _ | exact N0 _ | refine Le.bind ?_ (fun _=>?_) | refine Le.ite ?_ ?_ | (rename_i x; cases x))
def Uc (fu:Nat)(parserParser:A0):Option (Pn (E0×Bool×A0)):=
 P0 fu [116,121,112,101] parserParser>>=fun x1=>
 if x1.1=true then
  P3 fu x1.2>>=fun x2=>match x2 with
  | .pn nn=>
  some (.pn nn)
  | .ok x2=>
  R0 fu [61] x2.2>>=fun x3=>match x3 with
  | .pn nn=>
  some (.pn nn)
  | .ok x3=>
  G5 fu x3>>=fun x4=>match x4 with
  | .pn nn=>
  some (.pn nn)
  | .ok x4=>
  R0 fu [59] x4.2>>=fun x5=>match x5 with
  | .pn nn=>
  some (.pn nn)
  | .ok x5=>
  some (.ok ((E0.mk 0 x2.1 x4.1 0 (B0.mk 0 0 [] []) [] [] []),true,x5))
 else
  P0 fu [115,101,99,114,101,116] x1.2>>=fun x6=>
  if x6.1=true then
   O4 fu 1 x6.2>>=fun x7=>match x7 with
   | .pn nn=>
   some (.pn nn)
   | .ok x7=>
   R0 fu [59] x7.2>>=fun x8=>match x8 with
   | .pn nn=>
   some (.pn nn)
   | .ok x8=>
   some (.ok (x7.1,true,x8))
  else
   P0 fu [112,117,98,108,105,99] x6.2>>=fun x9=>
   if x9.1=true then
    O4 fu 2 x9.2>>=fun x10=>match x10 with
    | .pn nn=>
    some (.pn nn)
    | .ok x10=>
    R0 fu [59] x10.2>>=fun x11=>match x11 with
    | .pn nn=>
    some (.pn nn)
    | .ok x11=>
    some (.ok (x10.1,true,x11))
   else
    P0 fu [114,97,110,100,111,109] x9.2>>=fun x12=>
    if x12.1=true then
     O4 fu 3 x12.2>>=fun x13=>match x13 with
     | .pn nn=>
     some (.pn nn)
     | .ok x13=>
     R0 fu [59] x13.2>>=fun x14=>match x14 with
     | .pn nn=>
     some (.pn nn)
     | .ok x14=>
     some (.ok (x13.1,true,x14))
    else
     P0 fu [118,97,114] x12.2>>=fun x15=>
     if x15.1=true then
      V9 fu x15.2>>=fun x16=>match x16 with
      | .pn nn=>
      some (.pn nn)
      | .ok x16=>
      some (.ok (x16.1,true,x16.2))
     else
      P0 fu [104,97,116,99,104] x15.2>>=fun x17=>
      if x17.1=true then
       O4 fu 5 x17.2>>=fun x18=>match x18 with
       | .pn nn=>
       some (.pn nn)
       | .ok x18=>
       R0 fu [61] x18.2>>=fun x19=>match x19 with
       | .pn nn=>
       some (.pn nn)
       | .ok x19=>
       W1 fu x19>>=fun x20=>match x20 with
       | .pn nn=>
       some (.pn nn)
       | .ok x20=>
       R0 fu [59] x20.2>>=fun x21=>match x21 with
       | .pn nn=>
       some (.pn nn)
       | .ok x21=>
       some (.ok ((E0.mk x18.1.Kind x18.1.Name x18.1.TypeV x18.1.Init x20.1 x18.1.Params x18.1.Vars x18.1.Body),true,x21))
      else
       P0 fu [102,117,110,99] x17.2>>=fun x22=>
       if x22.1=true then
        Oe fu x22.2>>=fun x23=>match x23 with
        | .pn nn=>
        some (.pn nn)
        | .ok x23=>
        some (.ok (x23.1,true,x23.2))
       else
        some (.ok ((E0.mk 0 [] (L0.mk 0 0 0 0 [] [] []) 0 (B0.mk 0 0 [] []) [] [] []),false,x22.2))
theorem Kn (fu:Nat)(parserParser:A0):Le (Uc fu parserParser) (N6 parserParser):=by
 unfold Uc N6
 repeat (with_reducible first | exact Le.rfl | exact Y0 fu _ _ | exact D1 fu _ | exact Z0 fu _ _ | exact Qh fu _ | exact Tb fu _ _ | exact Ii fu _ | exact V3 fu _ | exact Cq fu _ | exact N0 _ | refine Le.bind ?_ (fun _=>?_) | refine Le.ite ?_ ?_ | (rename_i x; cases x))
def Y5:Nat→A0→(List E0)→Option (Pn (E1×A0))
 | 0,_,_=>none
 | fu+1,o0,o2_Decls=>
  Uc fu o0>>=fun x1=>match x1 with
  | .pn nn=>
  some (.pn nn)
  | .ok x1=>
  if (!x1.2.1)=true then
   R0 fu [98,101,103,105,110] x1.2.2>>=fun x2=>match x2 with
   | .pn nn=>
   some (.pn nn)
   | .ok x2=>
   A5 fu x2>>=fun x3=>match x3 with
   | .pn nn=>
   some (.pn nn)
   | .ok x3=>
   R0 fu [101,110,100] x3.2>>=fun x4=>match x4 with
   | .pn nn=>
   some (.pn nn)
   | .ok x4=>
   some (.ok ((E1.mk o2_Decls x3.1),x4))
  else
   if (decide ((o2_Decls.length+1) * 257≤140737488355328))=true then
    Y5 fu x1.2.2 (o2_Decls++[x1.1])
   else none
theorem Ln (fu:Nat):(∀ (o0:A0) (o2_Decls:List E0),Le (Y5 fu o0 o2_Decls) (G4 o0 o2_Decls)):=by
 induction fu with
 | zero=>exact fun _ _=>Le.none
 | succ fu ih=>
  have ih0:=ih
  refine fun o0 o2_Decls=>?_
  ·rw [Y5,G4]
   repeat (with_reducible first | exact Le.rfl | exact ih0 _ _ | exact Kn fu _ | exact Z0 fu _ _ | exact Tg fu _ | exact N0 _ | refine Le.bind ?_ (fun _=>?_) | refine Le.ite ?_ ?_ | (rename_i x; cases x))
theorem Zo (fu:Nat)(o0:A0)(o2_Decls:List E0):Le (Y5 fu o0 o2_Decls) (G4 o0 o2_Decls):=(Ln fu) o0 o2_Decls
def We (fu:Nat)(parserParser:A0):Option (Pn (E1×A0)):=
 Y5 fu parserParser []
theorem Er (fu:Nat)(parserParser:A0):Le (We fu parserParser) (B9 parserParser):=by
 unfold We B9
 repeat (with_reducible first | exact Le.rfl | exact Zo fu _ _ | exact N0 _ | refine Le.bind ?_ (fun _=>?_) | refine Le.ite ?_ ?_ | (rename_i x; cases x))
def Jk (fu:Nat)(parserParser:A0)(apiProgram:E1):Option (Pn (A0×E1)):=
 We fu parserParser>>=fun x1=>match x1 with
 | .pn nn=>
 some (.pn nn)
 | .ok x1=>
 some (.ok (x1.2,x1.1))
theorem Sx (fu:Nat)(parserParser:A0)(apiProgram:E1):Le (Jk fu parserParser apiProgram) (Bg parserParser apiProgram):=by
 unfold Jk Bg
 repeat (with_reducible first | exact Le.rfl | exact Er fu _ | exact N0 _ | refine Le.bind ?_ (fun _=>?_) | refine Le.ite ?_ ?_ | (rename_i x; cases x))
def Kk (fu:Nat)(text:Str)(apiProgram:E1):Option (Int×Int×E1):=
 Rs fu text>>=fun x1=>
 if (x1.2.2 != 0)=true then
  some (x1.2.1,x1.2.2,apiProgram)
 else
  Jk fu (A0.mk x1.1 0 ((text).length:Int)) apiProgram>>=fun x2=>match x2 with
  | .pn nn=>
  some (nn,6,apiProgram)
  | .ok x2=>
  if (decide (x2.1.next < ((x2.1.tokens).length:Int)))=true then
   U9 fu x2.1>>=fun x3=>match x3 with
   | .pn nn=>
   some (nn,6,x2.2)
   | .ok x3=>
   some (0,0,x2.2)
  else
   some (0,0,x2.2)
theorem Tx (fu:Nat)(text:Str)(apiProgram:E1):Le (Kk fu text apiProgram) (Cg text apiProgram):=by
 unfold Kk Cg
 repeat (with_reducible first | exact Le.rfl | exact U13 fu _ | exact Sx fu _ _ | exact Jg fu _ | exact N0 _ | refine Le.bind ?_ (fun _=>?_) | refine Le.ite ?_ ?_ | (rename_i x; cases x))
def Pj (fu:Nat)(k:Int):Option (Bool×Bool):=
 some ((bif (decide (k≥0)) then (decide (k≤6)) else false),(bif (k == 5) then true else (k == 6)))
theorem Vc (fu:Nat)(k:Int):Le (Pj fu k) (Df k):=by
 unfold Pj Df
 repeat (with_reducible first | exact Le.rfl | exact N0 _ | refine Le.bind ?_ (fun _=>?_) | refine Le.ite ?_ ?_ | (rename_i x; cases x))
def G1 (fu:Nat)(ok:Bool)(syntaxReport:D0):Option D0:=
 some (D0.mk syntaxReport.nodes syntaxReport.depth (bif syntaxReport.badForm then true else (!ok)) syntaxReport.badName syntaxReport.badNumber)
theorem U1 (fu:Nat)(ok:Bool)(syntaxReport:D0):Le (G1 fu ok syntaxReport) (N1 ok syntaxReport):=by
 unfold G1 N1
 repeat (with_reducible first | exact Le.rfl | exact N0 _ | refine Le.bind ?_ (fun _=>?_) | refine Le.ite ?_ ?_ | (rename_i x; cases x))
def Z4:Nat→(List Str)→(List Str)→Int→Option Bool
 | 0,_,_,_=>none
 | fu+1,s1,s2,v13=>
  if (decide (v13 < ((s1).length:Int)))=true then
   idx s1 v13>>=fun x1=>
   idx s2 v13>>=fun x2=>
   if (!(x1 == x2))=true then
    some false
   else
    Z4 fu s1 s2 (IntKind.i64.wrap (v13+1))
  else
   some true
theorem Xj (fu:Nat):(∀ (s1:List Str) (s2:List Str) (v13:Int),Le (Z4 fu s1 s2 v13) (J3 s1 s2 v13)):=by
 induction fu with
 | zero=>exact fun _ _ _=>Le.none
 | succ fu ih=>
  have ih0:=ih
  refine fun s1 s2 v13=>?_
  ·rw [Z4,J3]
   repeat (with_reducible first | exact Le.rfl | exact ih0 _ _ _ | exact N0 _ | refine Le.bind ?_ (fun _=>?_) | refine Le.ite ?_ ?_ | (rename_i x; cases x))
theorem Lk (fu:Nat)(s1:List Str)(s2:List Str)(v13:Int):Le (Z4 fu s1 s2 v13) (J3 s1 s2 v13):=(Xj fu) s1 s2 v13
def Gb (fu:Nat)(s1:List Str)(s2:List Str):Option Bool:=
 if (((s1).length:Int) != ((s2).length:Int))=true then
  some false
 else
  Z4 fu s1 s2 0
theorem La (fu:Nat)(s1:List Str)(s2:List Str):Le (Gb fu s1 s2) (X5 s1 s2):=by
 unfold Gb X5
 repeat (with_reducible first | exact Le.rfl | exact Lk fu _ _ _ | exact N0 _ | refine Le.bind ?_ (fun _=>?_) | refine Le.ite ?_ ?_ | (rename_i x; cases x))
mutual
def Wc:Nat→L0→L0→Option Bool
 | 0,_,_=>none
 | fu+1,a,b=>
  (if (bif (bif (bif (bif (a.Kind == b.Kind) then (a.Low == b.Low) else false) then (a.High == b.High) else false) then (a.Size == b.Size) else false) then (a.Name == b.Name) else false)=true then Gb fu a.Names b.Names else some default)>>=fun x1=>
  (if (bif (bif (bif (bif (bif (a.Kind == b.Kind) then (a.Low == b.Low) else false) then (a.High == b.High) else false) then (a.Size == b.Size) else false) then (a.Name == b.Name) else false) then x1 else false)=true then J4 fu a.Of b.Of else some default)>>=fun x2=>
  some (bif (bif (bif (bif (bif (bif (a.Kind == b.Kind) then (a.Low == b.Low) else false) then (a.High == b.High) else false) then (a.Size == b.Size) else false) then (a.Name == b.Name) else false) then x1 else false) then x2 else false)
def J4:Nat→(List L0)→(List L0)→Option Bool
 | 0,_,_=>none
 | fu+1,s1,s2=>
  if (((s1).length:Int) != ((s2).length:Int))=true then
   some false
  else
   C3 fu s1 s2 0
def C3:Nat→(List L0)→(List L0)→Int→Option Bool
 | 0,_,_,_=>none
 | fu+1,s1,s2,v17=>
  if (decide (v17 < ((s1).length:Int)))=true then
   idx s1 v17>>=fun x1=>
   idx s2 v17>>=fun x2=>
   Wc fu x1 x2>>=fun x3=>
   if (!x3)=true then
    some false
   else
    C3 fu s1 s2 (IntKind.i64.wrap (v17+1))
  else
   some true
end
theorem Dv (fu:Nat):(∀ (a:L0) (b:L0),Le (Wc fu a b) (G7 a b))∧(∀ (s1:List L0) (s2:List L0),Le (J4 fu s1 s2) (N3 s1 s2))∧(∀ (s1:List L0) (s2:List L0) (v17:Int),Le (C3 fu s1 s2 v17) (Q2 s1 s2 v17)):=by
 induction fu with
 | zero=>exact ⟨fun _ _=>Le.none,fun _ _=>Le.none,fun _ _ _=>Le.none⟩
 | succ fu ih=>
  obtain ⟨ih0,ih1,ih2⟩:=ih
  refine ⟨fun a b=>?_,fun s1 s2=>?_,fun s1 s2 v17=>?_⟩
  ·rw [Wc,G7]
   repeat (with_reducible first | exact Le.rfl | exact ih0 _ _ | exact ih1 _ _ | exact ih2 _ _ _ | exact La fu _ _ | exact N0 _ | refine Le.bind ?_ (fun _=>?_) | refine Le.ite ?_ ?_ | (rename_i x; cases x))
  ·rw [J4,N3]
   repeat (with_reducible first | exact Le.rfl | exact ih0 _ _ | exact ih1 _ _ | exact ih2 _ _ _ | exact La fu _ _ | exact N0 _ | refine Le.bind ?_ (fun _=>?_) | refine Le.ite ?_ ?_ | (rename_i x; cases x))
  ·rw [C3,Q2]
   repeat (with_reducible first | exact Le.rfl | exact ih0 _ _ | exact ih1 _ _ | exact ih2 _ _ _ | exact La fu _ _ | exact N0 _ | refine Le.bind ?_ (fun _=>?_) | refine Le.ite ?_ ?_ | (rename_i x; cases x))
theorem Xa (fu:Nat)(a:L0)(b:L0):Le (Wc fu a b) (G7 a b):=(Dv fu).1 a b
def X9 (fu:Nat)(d:Int)(syntaxReport:D0):Option D0:=
 some (D0.mk syntaxReport.nodes (max syntaxReport.depth d) syntaxReport.badForm syntaxReport.badName syntaxReport.badNumber)
theorem J2 (fu:Nat)(d:Int)(syntaxReport:D0):Le (X9 fu d syntaxReport) (H7 d syntaxReport):=by
 unfold X9 H7
 repeat (with_reducible first | exact Le.rfl | exact N0 _ | refine Le.bind ?_ (fun _=>?_) | refine Le.ite ?_ ?_ | (rename_i x; cases x))
def C4 (fu:Nat)(n:Int)(low:Int)(high:Int):Option Bool:=
 some (bif (decide (n≥low)) then (decide (n≤high)) else false)
theorem X2 (fu:Nat)(n:Int)(low:Int)(high:Int):Le (C4 fu n low high) (D4 n low high):=by
 unfold C4 D4
 repeat (with_reducible first | exact Le.rfl | exact N0 _ | refine Le.bind ?_ (fun _=>?_) | refine Le.ite ?_ ?_ | (rename_i x; cases x))
def B3 (fu:Nat)(ok:Bool)(syntaxReport:D0):Option D0:=
 some (D0.mk syntaxReport.nodes syntaxReport.depth syntaxReport.badForm syntaxReport.badName (bif syntaxReport.badNumber then true else (!ok)))
theorem D2 (fu:Nat)(ok:Bool)(syntaxReport:D0):Le (B3 fu ok syntaxReport) (Y2 ok syntaxReport):=by
 unfold B3 Y2
 repeat (with_reducible first | exact Le.rfl | exact N0 _ | refine Le.bind ?_ (fun _=>?_) | refine Le.ite ?_ ?_ | (rename_i x; cases x))
def Nd:Nat→Str→Int→Option Bool
 | 0,_,_=>none
 | fu+1,s,v6=>
  if (decide (v6 < ((s).length:Int)))=true then
   idx s v6>>=fun x1=>
   Ie fu (x1.toNat:Int)>>=fun x2=>
   (if ((!x2)&&(!(v6 == 0)))=true then idx s v6 else some default)>>=fun x3=>
   (if ((!x2)&&(!(v6 == 0)))=true then Ed fu (x3.toNat:Int) else some default)>>=fun x4=>
   if (bif (!x2) then (bif (v6 == 0) then true else (!x4)) else false)=true then
    some false
   else
    Nd fu s (IntKind.i64.wrap (v6+1))
  else
   some (!(s == []))
theorem Vv (fu:Nat):(∀ (s:Str) (v6:Int),Le (Nd fu s v6) (V7 s v6)):=by
 induction fu with
 | zero=>exact fun _ _=>Le.none
 | succ fu ih=>
  have ih0:=ih
  refine fun s v6=>?_
  ·rw [Nd,V7]
   repeat (with_reducible first | exact Le.rfl | exact ih0 _ _ | exact Oj fu _ | exact Oh fu _ | exact N0 _ | refine Le.bind ?_ (fun _=>?_) | refine Le.ite ?_ ?_ | (rename_i x; cases x))
theorem Vw (fu:Nat)(s:Str)(v6:Int):Le (Nd fu s v6) (V7 s v6):=(Vv fu) s v6
def Mn (fu:Nat)(s:Str):Option Bool:=
 Nd fu s 0
theorem M10 (fu:Nat)(s:Str):Le (Mn fu s) (Ti s):=by
 unfold Mn Ti
 repeat (with_reducible first | exact Le.rfl | exact Vw fu _ _ | exact N0 _ | refine Le.bind ?_ (fun _=>?_) | refine Le.ite ?_ ?_ | (rename_i x; cases x))
def Nn (fu:Nat)(s:Str):Option Bool:=
 (if (decide (((s).length:Int)≤12))=true then Mn fu s else some default)>>=fun x1=>
 (if (bif (decide (((s).length:Int)≤12)) then x1 else false)=true then Ph fu s else some default)>>=fun x2=>
 some (bif (bif (decide (((s).length:Int)≤12)) then x1 else false) then (!x2) else false)
theorem N10 (fu:Nat)(s:Str):Le (Nn fu s) (Ui s):=by
 unfold Nn Ui
 repeat (with_reducible first | exact Le.rfl | exact M10 fu _ | exact Sp fu _ | exact N0 _ | refine Le.bind ?_ (fun _=>?_) | refine Le.ite ?_ ?_ | (rename_i x; cases x))
def Yl (fu:Nat)(s:Str):Option Bool:=
 Nn fu s>>=fun x1=>
 some x1
theorem Wy (fu:Nat)(s:Str):Le (Yl fu s) (Yh s):=by
 unfold Yl Yh
 repeat (with_reducible first | exact Le.rfl | exact N10 fu _ | exact N0 _ | refine Le.bind ?_ (fun _=>?_) | refine Le.ite ?_ ?_ | (rename_i x; cases x))
def T5 (fu:Nat)(s:Str)(syntaxReport:D0):Option D0:=
 (if (!syntaxReport.badName)=true then Yl fu s else some default)>>=fun x1=>
 some (D0.mk syntaxReport.nodes syntaxReport.depth syntaxReport.badForm (bif syntaxReport.badName then true else (!x1)) syntaxReport.badNumber)
theorem Z1 (fu:Nat)(s:Str)(syntaxReport:D0):Le (T5 fu s syntaxReport) (B5 s syntaxReport):=by
 unfold T5 B5
 repeat (with_reducible first | exact Le.rfl | exact Wy fu _ | exact N0 _ | refine Le.bind ?_ (fun _=>?_) | refine Le.ite ?_ ?_ | (rename_i x; cases x))
mutual
def Ya:Nat→L0→Int→D0→Option D0
 | 0,_,_,_=>none
 | fu+1,t,depth,syntaxReport=>
  X9 fu depth (D0.mk (IntKind.i64.wrap (syntaxReport.nodes+1)) syntaxReport.depth syntaxReport.badForm syntaxReport.badName syntaxReport.badNumber)>>=fun x1=>
  G1 fu (bif (decide (t.Kind≥0)) then (decide (t.Kind≤4)) else false) x1>>=fun x2=>
  G1 fu (bif (t.Kind == 1) then true else (bif (t.Low == 0) then (t.High == 0) else false)) x2>>=fun x3=>
  G1 fu (bif (t.Kind == 2) then true else (t.Size == 0)) x3>>=fun x4=>
  G1 fu (bif (t.Kind == 4) then true else (t.Name == [])) x4>>=fun x5=>
  G1 fu (bif (t.Kind == 3) then true else (((t.Names).length:Int) == 0)) x5>>=fun x6=>
  if (t.Kind == 2)=true then
   G1 fu (((t.Of).length:Int) == 1) x6>>=fun x7=>
   C4 fu t.Size 1 32>>=fun x8=>
   B3 fu x8 x7>>=fun x9=>
   R8 fu t depth x9
  else
   if (t.Kind == 3)=true then
    G1 fu (bif (decide (((t.Of).length:Int)≥1)) then (((t.Of).length:Int) == ((t.Names).length:Int)) else false) x6>>=fun x14=>
    B3 fu (decide (((t.Of).length:Int)≤32)) x14>>=fun x15=>
    R8 fu t depth x15
   else
    G1 fu (((t.Of).length:Int) == 0) x6>>=fun x16=>
    R8 fu t depth x16
def R8:Nat→L0→Int→D0→Option D0
 | 0,_,_,_=>none
 | fu+1,t,depth,o0=>
  if (t.Kind == 1)=true then
   C4 fu t.Low (-1048576) 1048576>>=fun x10=>
   (if x10=true then C4 fu t.High t.Low 1048576 else some default)>>=fun x11=>
   B3 fu (bif x10 then x11 else false) o0>>=fun x12=>
   Ub fu t depth x12
  else
   Ub fu t depth o0
def Ub:Nat→L0→Int→D0→Option D0
 | 0,_,_,_=>none
 | fu+1,t,depth,o01=>
  if (t.Kind == 4)=true then
   T5 fu t.Name o01>>=fun x13=>
   Vb fu t depth x13
  else
   Vb fu t depth o01
def Vb:Nat→L0→Int→D0→Option D0
 | 0,_,_,_=>none
 | fu+1,t,depth,o02=>
  Wb fu t depth o02 0
def Wb:Nat→L0→Int→D0→Int→Option D0
 | 0,_,_,_,_=>none
 | fu+1,t,depth,o03,v147=>
  if (decide (v147 < ((t.Names).length:Int)))=true then
   idx t.Names v147>>=fun x17=>
   T5 fu x17 o03>>=fun x18=>
   Wb fu t depth x18 (IntKind.i64.wrap (v147+1))
  else
   Xb fu t depth o03 0
def Xb:Nat→L0→Int→D0→Int→Option D0
 | 0,_,_,_,_=>none
 | fu+1,t,depth,o04,v158=>
  if (decide (v158 < ((t.Of).length:Int)))=true then
   idx t.Of v158>>=fun x19=>
   Ya fu x19 (IntKind.i64.wrap (depth+1)) o04>>=fun x20=>
   Xb fu t depth x20 (IntKind.i64.wrap (v158+1))
  else
   some o04
end
theorem Mu (fu:Nat):(∀ (t:L0) (depth:Int) (syntaxReport:D0),Le (Ya fu t depth syntaxReport) (F6 t depth syntaxReport))∧(∀ (t:L0) (depth:Int) (o0:D0),Le (R8 fu t depth o0) (Q7 t depth o0))∧(∀ (t:L0) (depth:Int) (o01:D0),Le (Ub fu t depth o01) (P9 t depth o01))∧(∀ (t:L0) (depth:Int) (o02:D0),Le (Vb fu t depth o02) (Q9 t depth o02))∧(∀ (t:L0) (depth:Int) (o03:D0) (v147:Int),Le (Wb fu t depth o03 v147) (R9 t depth o03 v147))∧(∀ (t:L0) (depth:Int) (o04:D0) (v158:Int),Le (Xb fu t depth o04 v158) (S9 t depth o04 v158)):=by
 induction fu with
 | zero=>exact ⟨fun _ _ _=>Le.none,fun _ _ _=>Le.none,fun _ _ _=>Le.none,fun _ _ _=>Le.none,fun _ _ _ _=>Le.none,fun _ _ _ _=>Le.none⟩
 | succ fu ih=>
  obtain ⟨ih0,ih1,ih2,ih3,ih4,ih5⟩:=ih
  refine ⟨fun t depth syntaxReport=>?_,fun t depth o0=>?_,fun t depth o01=>?_,fun t depth o02=>?_,fun t depth o03 v147=>?_,fun t depth o04 v158=>?_⟩
  ·rw [Ya,F6]
   repeat (with_reducible first | exact Le.rfl | exact ih0 _ _ _ | exact ih1 _ _ _ | exact ih2 _ _ _ | exact ih3 _ _ _ | exact ih4 _ _ _ _ | exact ih5 _ _ _ _ | exact J2 fu _ _ | exact U1 fu _ _ | exact X2 fu _ _ _ | exact D2 fu _ _ | exact Z1 fu _ _ | exact N0 _ | refine Le.bind ?_ (fun _=>?_) | refine Le.ite ?_ ?_ | (rename_i x; cases x))
  ·rw [R8,Q7]
   repeat (with_reducible first | exact Le.rfl | exact ih0 _ _ _ | exact ih1 _ _ _ | exact ih2 _ _ _ | exact ih3 _ _ _ | exact ih4 _ _ _ _ | exact ih5 _ _ _ _ | exact J2 fu _ _ | exact U1 fu _ _ | exact X2 fu _ _ _ | exact D2 fu _ _ | exact Z1 fu _ _ | exact N0 _ | refine Le.bind ?_ (fun _=>?_) | refine Le.ite ?_ ?_ | (rename_i x; cases x))
  ·rw [Ub,P9]
   repeat (with_reducible first | exact Le.rfl | exact ih0 _ _ _ | exact ih1 _ _ _ | exact ih2 _ _ _ | exact ih3 _ _ _ | exact ih4 _ _ _ _ | exact ih5 _ _ _ _ | exact J2 fu _ _ | exact U1 fu _ _ | exact X2 fu _ _ _ | exact D2 fu _ _ | exact Z1 fu _ _ | exact N0 _ | refine Le.bind ?_ (fun _=>?_) | refine Le.ite ?_ ?_ | (rename_i x; cases x))
  ·rw [Vb,Q9]
   repeat (with_reducible first | exact Le.rfl | exact ih0 _ _ _ | exact ih1 _ _ _ | exact ih2 _ _ _ | exact ih3 _ _ _ | exact ih4 _ _ _ _ | exact ih5 _ _ _ _ | exact J2 fu _ _ | exact U1 fu _ _ | exact X2 fu _ _ _ | exact D2 fu _ _ | exact Z1 fu _ _ | exact N0 _ | refine Le.bind ?_ (fun _=>?_) | refine Le.ite ?_ ?_ | (rename_i x; cases x))
  ·rw [Wb,R9]
   repeat (with_reducible first | exact Le.rfl | exact ih0 _ _ _ | exact ih1 _ _ _ | exact ih2 _ _ _ | exact ih3 _ _ _ | exact ih4 _ _ _ _ | exact ih5 _ _ _ _ | exact J2 fu _ _ | exact U1 fu _ _ | exact X2 fu _ _ _ | exact D2 fu _ _ | exact Z1 fu _ _ | exact N0 _ | refine Le.bind ?_ (fun _=>?_) | refine Le.ite ?_ ?_ | (rename_i x; cases x))
  ·rw [Xb,S9]
   repeat (with_reducible first | exact Le.rfl | exact ih0 _ _ _ | exact ih1 _ _ _ | exact ih2 _ _ _ | exact ih3 _ _ _ | exact ih4 _ _ _ _ | exact ih5 _ _ _ _ | exact J2 fu _ _ | exact U1 fu _ _ | exact X2 fu _ _ _ | exact D2 fu _ _ | exact Z1 fu _ _ | exact N0 _ | refine Le.bind ?_ (fun _=>?_) | refine Le.ite ?_ ?_ | (rename_i x; cases x))
theorem Y9 (fu:Nat)(t:L0)(depth:Int)(syntaxReport:D0):Le (Ya fu t depth syntaxReport) (F6 t depth syntaxReport):=(Mu fu).1 t depth syntaxReport
mutual
def Xc:Nat→B0→B0→Option Bool
 | 0,_,_=>none
 | fu+1,a,b=>
  (if (bif (bif (a.Op == b.Op) then (a.NV == b.NV) else false) then (a.Name == b.Name) else false)=true then K4 fu a.Kids b.Kids else some default)>>=fun x1=>
  some (bif (bif (bif (a.Op == b.Op) then (a.NV == b.NV) else false) then (a.Name == b.Name) else false) then x1 else false)
def K4:Nat→(List B0)→(List B0)→Option Bool
 | 0,_,_=>none
 | fu+1,s1,s2=>
  if (((s1).length:Int) != ((s2).length:Int))=true then
   some false
  else
   D3 fu s1 s2 0
def D3:Nat→(List B0)→(List B0)→Int→Option Bool
 | 0,_,_,_=>none
 | fu+1,s1,s2,v17=>
  if (decide (v17 < ((s1).length:Int)))=true then
   idx s1 v17>>=fun x1=>
   idx s2 v17>>=fun x2=>
   Xc fu x1 x2>>=fun x3=>
   if (!x3)=true then
    some false
   else
    D3 fu s1 s2 (IntKind.i64.wrap (v17+1))
  else
   some true
end
theorem Ev (fu:Nat):(∀ (a:B0) (b:B0),Le (Xc fu a b) (I7 a b))∧(∀ (s1:List B0) (s2:List B0),Le (K4 fu s1 s2) (O3 s1 s2))∧(∀ (s1:List B0) (s2:List B0) (v17:Int),Le (D3 fu s1 s2 v17) (R2 s1 s2 v17)):=by
 induction fu with
 | zero=>exact ⟨fun _ _=>Le.none,fun _ _=>Le.none,fun _ _ _=>Le.none⟩
 | succ fu ih=>
  obtain ⟨ih0,ih1,ih2⟩:=ih
  refine ⟨fun a b=>?_,fun s1 s2=>?_,fun s1 s2 v17=>?_⟩
  ·rw [Xc,I7]
   repeat (with_reducible first | exact Le.rfl | exact ih0 _ _ | exact ih1 _ _ | exact ih2 _ _ _ | exact N0 _ | refine Le.bind ?_ (fun _=>?_) | refine Le.ite ?_ ?_ | (rename_i x; cases x))
  ·rw [K4,O3]
   repeat (with_reducible first | exact Le.rfl | exact ih0 _ _ | exact ih1 _ _ | exact ih2 _ _ _ | exact N0 _ | refine Le.bind ?_ (fun _=>?_) | refine Le.ite ?_ ?_ | (rename_i x; cases x))
  ·rw [D3,R2]
   repeat (with_reducible first | exact Le.rfl | exact ih0 _ _ | exact ih1 _ _ | exact ih2 _ _ _ | exact N0 _ | refine Le.bind ?_ (fun _=>?_) | refine Le.ite ?_ ?_ | (rename_i x; cases x))
theorem Wv (fu:Nat)(a:B0)(b:B0):Le (Xc fu a b) (I7 a b):=(Ev fu).1 a b
def Od (fu:Nat)(op:Int)(v9:Bool):Option Int:=
 if v9=true then
  some 1
 else
  if (op == 5)=true then
   some 2
  else
   if (op == 23)=true then
    some 3
   else
    if (bif (decide (op≥8)) then (decide (op≤22)) else false)=true then
     some 2
    else
     some (-1)
theorem Ww (fu:Nat)(op:Int)(v9:Bool):Le (Od fu op v9) (T9 op v9):=by
 unfold Od T9
 repeat (with_reducible first | exact Le.rfl | exact N0 _ | refine Le.bind ?_ (fun _=>?_) | refine Le.ite ?_ ?_ | (rename_i x; cases x))
def Ia (fu:Nat)(op:Int)(v4:Bool):Option Int:=
 if v4=true then
  some 0
 else
  if (op == 4)=true then
   Od fu op (op == 4)
  else
   if (op == 6)=true then
    Od fu op (op == 6)
   else
    Od fu op (op == 7)
theorem Xw (fu:Nat)(op:Int)(v4:Bool):Le (Ia fu op v4) (W7 op v4):=by
 unfold Ia W7
 repeat (with_reducible first | exact Le.rfl | exact Ww fu _ _ | exact N0 _ | refine Le.bind ?_ (fun _=>?_) | refine Le.ite ?_ ?_ | (rename_i x; cases x))
def On (fu:Nat)(op:Int):Option Int:=
 if (op == 0)=true then
  Ia fu op (op == 0)
 else
  if (op == 1)=true then
   Ia fu op (op == 1)
  else
   if (op == 2)=true then
    Ia fu op (op == 2)
   else
    Ia fu op (op == 3)
theorem Jf (fu:Nat)(op:Int):Le (On fu op) (Wi op):=by
 unfold On Wi
 repeat (with_reducible first | exact Le.rfl | exact Xw fu _ _ | exact N0 _ | refine Le.bind ?_ (fun _=>?_) | refine Le.ite ?_ ?_ | (rename_i x; cases x))
def Pd:Nat→B0→Option Bool
 | 0,_=>none
 | fu+1,o0=>
  if (bif (o0.Op == 4) then true else (o0.Op == 5))=true then
   if (((o0.Kids).length:Int) == 0)=true then
    some false
   else
    idx o0.Kids 0>>=fun x1=>
    Pd fu x1
  else
   some (o0.Op == 3)
theorem Xv (fu:Nat):(∀ (o0:B0),Le (Pd fu o0) (X7 o0)):=by
 induction fu with
 | zero=>exact fun _=>Le.none
 | succ fu ih=>
  have ih0:=ih
  refine fun o0=>?_
  ·rw [Pd,X7]
   repeat (with_reducible first | exact Le.rfl | exact ih0 _ | exact N0 _ | refine Le.bind ?_ (fun _=>?_) | refine Le.ite ?_ ?_ | (rename_i x; cases x))
theorem Yw (fu:Nat)(o0:B0):Le (Pd fu o0) (X7 o0):=(Xv fu) o0
def Kj (fu:Nat)(e:B0):Option Bool:=
 Pd fu e
theorem J5 (fu:Nat)(e:B0):Le (Kj fu e) (Eg e):=by
 unfold Kj Eg
 repeat (with_reducible first | exact Le.rfl | exact Yw fu _ | exact N0 _ | refine Le.bind ?_ (fun _=>?_) | refine Le.ite ?_ ?_ | (rename_i x; cases x))
mutual
def R7:Nat→B0→Int→D0→Option D0
 | 0,_,_,_=>none
 | fu+1,e,depth,syntaxReport=>
  X9 fu depth (D0.mk (IntKind.i64.wrap (syntaxReport.nodes+1)) syntaxReport.depth syntaxReport.badForm syntaxReport.badName syntaxReport.badNumber)>>=fun x1=>
  On fu e.Op>>=fun x2=>
  G1 fu (x2 == ((e.Kids).length:Int)) x1>>=fun x3=>
  G1 fu (bif (e.NV == 0) then true else (e.Op == 0)) x3>>=fun x4=>
  G1 fu (bif (e.Name == []) then true else (bif (e.Op == 3) then true else (e.Op == 4))) x4>>=fun x5=>
  if (bif (e.Op == 4) then true else (e.Op == 5))=true then
   Kj fu e>>=fun x6=>
   G1 fu x6 x5>>=fun x7=>
   Pa fu e depth x7
  else
   Pa fu e depth x5
def Pa:Nat→B0→Int→D0→Option D0
 | 0,_,_,_=>none
 | fu+1,e,depth,o0=>
  if (bif (e.Op == 3) then true else (e.Op == 4))=true then
   T5 fu e.Name o0>>=fun x8=>
   Qa fu e depth x8
  else
   Qa fu e depth o0
def Qa:Nat→B0→Int→D0→Option D0
 | 0,_,_,_=>none
 | fu+1,e,depth,o01=>
  if (e.Op == 0)=true then
   C4 fu e.NV 0 1048576>>=fun x9=>
   B3 fu x9 o01>>=fun x10=>
   Ra fu e depth x10
  else
   Ra fu e depth o01
def Ra:Nat→B0→Int→D0→Option D0
 | 0,_,_,_=>none
 | fu+1,e,depth,o02=>
  Sa fu e depth o02 0
def Sa:Nat→B0→Int→D0→Int→Option D0
 | 0,_,_,_,_=>none
 | fu+1,e,depth,o03,v82=>
  if (decide (v82 < ((e.Kids).length:Int)))=true then
   idx e.Kids v82>>=fun x11=>
   R7 fu x11 (IntKind.i64.wrap (depth+1)) o03>>=fun x12=>
   Sa fu e depth x12 (IntKind.i64.wrap (v82+1))
  else
   some o03
end
theorem Ts (fu:Nat):(∀ (e:B0) (depth:Int) (syntaxReport:D0),Le (R7 fu e depth syntaxReport) (C5 e depth syntaxReport))∧(∀ (e:B0) (depth:Int) (o0:D0),Le (Pa fu e depth o0) (D9 e depth o0))∧(∀ (e:B0) (depth:Int) (o01:D0),Le (Qa fu e depth o01) (E9 e depth o01))∧(∀ (e:B0) (depth:Int) (o02:D0),Le (Ra fu e depth o02) (F9 e depth o02))∧(∀ (e:B0) (depth:Int) (o03:D0) (v82:Int),Le (Sa fu e depth o03 v82) (G9 e depth o03 v82)):=by
 induction fu with
 | zero=>exact ⟨fun _ _ _=>Le.none,fun _ _ _=>Le.none,fun _ _ _=>Le.none,fun _ _ _=>Le.none,fun _ _ _ _=>Le.none⟩
 | succ fu ih=>
  obtain ⟨ih0,ih1,ih2,ih3,ih4⟩:=ih
  refine ⟨fun e depth syntaxReport=>?_,fun e depth o0=>?_,fun e depth o01=>?_,fun e depth o02=>?_,fun e depth o03 v82=>?_⟩
  ·rw [R7,C5]
   repeat (with_reducible first | exact Le.rfl | exact ih0 _ _ _ | exact ih1 _ _ _ | exact ih2 _ _ _ | exact ih3 _ _ _ | exact ih4 _ _ _ _ | exact J2 fu _ _ | exact Jf fu _ | exact U1 fu _ _ | exact J5 fu _ | exact Z1 fu _ _ | exact X2 fu _ _ _ | exact D2 fu _ _ | exact N0 _ | refine Le.bind ?_ (fun _=>?_) | refine Le.ite ?_ ?_ | (rename_i x; cases x))
  ·rw [Pa,D9]
   repeat (with_reducible first | exact Le.rfl | exact ih0 _ _ _ | exact ih1 _ _ _ | exact ih2 _ _ _ | exact ih3 _ _ _ | exact ih4 _ _ _ _ | exact J2 fu _ _ | exact Jf fu _ | exact U1 fu _ _ | exact J5 fu _ | exact Z1 fu _ _ | exact X2 fu _ _ _ | exact D2 fu _ _ | exact N0 _ | refine Le.bind ?_ (fun _=>?_) | refine Le.ite ?_ ?_ | (rename_i x; cases x))
  ·rw [Qa,E9]
   repeat (with_reducible first | exact Le.rfl | exact ih0 _ _ _ | exact ih1 _ _ _ | exact ih2 _ _ _ | exact ih3 _ _ _ | exact ih4 _ _ _ _ | exact J2 fu _ _ | exact Jf fu _ | exact U1 fu _ _ | exact J5 fu _ | exact Z1 fu _ _ | exact X2 fu _ _ _ | exact D2 fu _ _ | exact N0 _ | refine Le.bind ?_ (fun _=>?_) | refine Le.ite ?_ ?_ | (rename_i x; cases x))
  ·rw [Ra,F9]
   repeat (with_reducible first | exact Le.rfl | exact ih0 _ _ _ | exact ih1 _ _ _ | exact ih2 _ _ _ | exact ih3 _ _ _ | exact ih4 _ _ _ _ | exact J2 fu _ _ | exact Jf fu _ | exact U1 fu _ _ | exact J5 fu _ | exact Z1 fu _ _ | exact X2 fu _ _ _ | exact D2 fu _ _ | exact N0 _ | refine Le.bind ?_ (fun _=>?_) | refine Le.ite ?_ ?_ | (rename_i x; cases x))
  ·rw [Sa,G9]
   repeat (with_reducible first | exact Le.rfl | exact ih0 _ _ _ | exact ih1 _ _ _ | exact ih2 _ _ _ | exact ih3 _ _ _ | exact ih4 _ _ _ _ | exact J2 fu _ _ | exact Jf fu _ | exact U1 fu _ _ | exact J5 fu _ | exact Z1 fu _ _ | exact X2 fu _ _ _ | exact D2 fu _ _ | exact N0 _ | refine Le.bind ?_ (fun _=>?_) | refine Le.ite ?_ ?_ | (rename_i x; cases x))
theorem U6 (fu:Nat)(e:B0)(depth:Int)(syntaxReport:D0):Le (R7 fu e depth syntaxReport) (C5 e depth syntaxReport):=(Ts fu).1 e depth syntaxReport
def L7 (fu:Nat)(e:B0)(used:Bool)(syntaxReport:D0):Option D0:=
 (if (!used)=true then Xc fu e (B0.mk 0 0 [] []) else some default)>>=fun x1=>
 if (bif (!used) then x1 else false)=true then
  some syntaxReport
 else
  G1 fu used syntaxReport>>=fun x2=>
  R7 fu e 1 x2>>=fun x3=>
  some x3
theorem E3 (fu:Nat)(e:B0)(used:Bool)(syntaxReport:D0):Le (L7 fu e used syntaxReport) (D5 e used syntaxReport):=by
 unfold L7 D5
 repeat (with_reducible first | exact Le.rfl | exact Wv fu _ _ | exact U1 fu _ _ | exact U6 fu _ _ _ | exact N0 _ | refine Le.bind ?_ (fun _=>?_) | refine Le.ite ?_ ?_ | (rename_i x; cases x))
def Cj (fu:Nat)(v:Int):Option (B2×Bool):=
 if (v == 0)=true then
  some ((B2.mk true true false false false false false false false),true)
 else
  if (v == 1)=true then
   some ((B2.mk true false true true false false false false false),true)
  else
   if (v == 2)=true then
    some ((B2.mk true false true false false false false false false),true)
   else
    if (v == 3)=true then
     some ((B2.mk false true false false false false false false false),true)
    else
     if (v == 4)=true then
      some ((B2.mk false false false false true false false false false),true)
     else
      if (v == 5)=true then
       some ((B2.mk false true false false false false false true true),true)
      else
       if (v == 6)=true then
        some ((B2.mk false true false false true false false true false),true)
       else
        if (v == 7)=true then
         some ((B2.mk false false true false false true false true false),true)
        else
         if (v == 8)=true then
          some ((B2.mk false false false false false false true false false),true)
         else
          some ((B2.mk false false false false false false false false false),false)
theorem Za (fu:Nat)(v:Int):Le (Cj fu v) (Ge v):=by
 unfold Cj Ge
 repeat (with_reducible first | exact Le.rfl | exact N0 _ | refine Le.bind ?_ (fun _=>?_) | refine Le.ite ?_ ?_ | (rename_i x; cases x))
def Z5:Nat→J0→D0→Int→Int→Option D0
 | 0,_,_,_,_=>none
 | fu+1,s,o0,last,v58=>
  if (decide (v58 < ((s.Numbers).length:Int)))=true then
   idx s.Numbers v58>>=fun x10=>
   C4 fu x10 0 1048576>>=fun x11=>
   B3 fu (bif x11 then (decide (x10 > last)) else false) o0>>=fun x12=>
   Z5 fu s x12 x10 (IntKind.i64.wrap (v58+1))
  else
   some o0
theorem Qn (fu:Nat):(∀ (s:J0) (o0:D0) (last:Int) (v58:Int),Le (Z5 fu s o0 last v58) (H4 s o0 last v58)):=by
 induction fu with
 | zero=>exact fun _ _ _ _=>Le.none
 | succ fu ih=>
  have ih0:=ih
  refine fun s o0 last v58=>?_
  ·rw [Z5,H4]
   repeat (with_reducible first | exact Le.rfl | exact ih0 _ _ _ _ | exact X2 fu _ _ _ | exact D2 fu _ _ | exact N0 _ | refine Le.bind ?_ (fun _=>?_) | refine Le.ite ?_ ?_ | (rename_i x; cases x))
theorem Bp (fu:Nat)(s:J0)(o0:D0)(last:Int)(v58:Int):Le (Z5 fu s o0 last v58) (H4 s o0 last v58):=(Qn fu) s o0 last v58
def Xe (fu:Nat)(s:J0)(syntaxReport:D0):Option D0:=
 if (s.Verb == 4)=true then
  C4 fu s.NV 0 1048576>>=fun x1=>
  B3 fu x1 syntaxReport>>=fun x2=>
  some x2
 else
  if (s.Verb == 6)=true then
   C4 fu s.NV 0 4096>>=fun x3=>
   B3 fu x3 syntaxReport>>=fun x4=>
   some x4
  else
   if (s.Verb == 7)=true then
    C4 fu s.Low (-1048576) 1048576>>=fun x5=>
    (if x5=true then C4 fu s.High s.Low 1048576 else some default)>>=fun x6=>
    B3 fu (bif (bif x5 then x6 else false) then (decide ((IntKind.i64.wrap (s.High - s.Low)) < 4096)) else false) syntaxReport>>=fun x7=>
    some x7
   else
    if (s.Verb == 8)=true then
     C4 fu ((s.Numbers).length:Int) 1 32>>=fun x8=>
     B3 fu x8 syntaxReport>>=fun x9=>
     Z5 fu s x9 (-1) 0
    else
     some syntaxReport
theorem M7 (fu:Nat)(s:J0)(syntaxReport:D0):Le (Xe fu s syntaxReport) (H9 s syntaxReport):=by
 unfold Xe H9
 repeat (with_reducible first | exact Le.rfl | exact X2 fu _ _ _ | exact D2 fu _ _ | exact Bp fu _ _ _ _ | exact N0 _ | refine Le.bind ?_ (fun _=>?_) | refine Le.ite ?_ ?_ | (rename_i x; cases x))
mutual
def I5:Nat→(List J0)→Int→D0→Option D0
 | 0,_,_,_=>none
 | fu+1,l,nesting,syntaxReport=>
  Z9 fu l nesting syntaxReport 0
def Z9:Nat→(List J0)→Int→D0→Int→Option D0
 | 0,_,_,_,_=>none
 | fu+1,l,nesting,o03,v14=>
  if (decide (v14 < ((l).length:Int)))=true then
   idx l v14>>=fun x1=>
   X9 fu nesting (D0.mk (IntKind.i64.wrap (o03.nodes+1)) o03.depth o03.badForm o03.badName o03.badNumber)>>=fun x2=>
   Cj fu x1.Verb>>=fun x3=>
   G1 fu x3.2 x2>>=fun x4=>
   L7 fu x1.Place x3.1.place x4>>=fun x5=>
   if x3.1.place=true then
    Kj fu x1.Place>>=fun x6=>
    G1 fu x6 x5>>=fun x7=>
    Aa fu l nesting x7 x1 x3 v14
   else
    Aa fu l nesting x5 x1 x3 v14
  else
   some o03
def Aa:Nat→(List J0)→Int→D0→J0→(B2×Bool)→Int→Option D0
 | 0,_,_,_,_,_,_=>none
 | fu+1,l,nesting,o0,x1,x3,v141=>
  L7 fu x1.Value x3.1.value o0>>=fun x8=>
  G1 fu (bif x3.1.name then true else (x1.Name == [])) x8>>=fun x9=>
  if x3.1.name=true then
   T5 fu x1.Name x9>>=fun x10=>
   Ba fu l nesting x10 x1 x3 v141
  else
   Ba fu l nesting x9 x1 x3 v141
def Ba:Nat→(List J0)→Int→D0→J0→(B2×Bool)→Int→Option D0
 | 0,_,_,_,_,_,_=>none
 | fu+1,l,nesting,o01,x1,x3,v142=>
  G1 fu (bif x3.1.args then true else (((x1.Args).length:Int) == 0)) o01>>=fun x11=>
  Ca fu l nesting x11 x1 x3 v142 0
def Ca:Nat→(List J0)→Int→D0→J0→(B2×Bool)→Int→Int→Option D0
 | 0,_,_,_,_,_,_,_=>none
 | fu+1,l,nesting,o02,x1,x3,v143,v84=>
  if (decide (v84 < ((x1.Args).length:Int)))=true then
   idx x1.Args v84>>=fun x12=>
   R7 fu x12 1 o02>>=fun x13=>
   Ca fu l nesting x13 x1 x3 v143 (IntKind.i64.wrap (v84+1))
  else
   G1 fu (bif x3.1.n then true else (x1.NV == 0)) o02>>=fun x14=>
   G1 fu (bif x3.1.bounds then true else (bif (x1.Low == 0) then (x1.High == 0) else false)) x14>>=fun x15=>
   G1 fu (bif x3.1.numbers then true else (((x1.Numbers).length:Int) == 0)) x15>>=fun x16=>
   G1 fu (bif x3.1.thenV then true else (((x1.Then).length:Int) == 0)) x16>>=fun x17=>
   G1 fu (bif x3.1.other then true else (((x1.Else).length:Int) == 0)) x17>>=fun x18=>
   Xe fu x1 x18>>=fun x19=>
   I5 fu x1.Then (IntKind.i64.wrap (nesting+1)) x19>>=fun x20=>
   I5 fu x1.Else (IntKind.i64.wrap (nesting+1)) x20>>=fun x21=>
   Z9 fu l nesting x21 (IntKind.i64.wrap (v143+1))
end
theorem Pr (fu:Nat):(∀ (l:List J0) (nesting:Int) (syntaxReport:D0),Le (I5 fu l nesting syntaxReport) (P4 l nesting syntaxReport))∧(∀ (l:List J0) (nesting:Int) (o03:D0) (v14:Int),Le (Z9 fu l nesting o03 v14) (H8 l nesting o03 v14))∧(∀ (l:List J0) (nesting:Int) (o0:D0) (x1:J0) (x3:B2×Bool) (v141:Int),Le (Aa fu l nesting o0 x1 x3 v141) (I8 l nesting o0 x1 x3 v141))∧(∀ (l:List J0) (nesting:Int) (o01:D0) (x1:J0) (x3:B2×Bool) (v142:Int),Le (Ba fu l nesting o01 x1 x3 v142) (J8 l nesting o01 x1 x3 v142))∧(∀ (l:List J0) (nesting:Int) (o02:D0) (x1:J0) (x3:B2×Bool) (v143:Int) (v84:Int),Le (Ca fu l nesting o02 x1 x3 v143 v84) (K8 l nesting o02 x1 x3 v143 v84)):=by
 induction fu with
 | zero=>exact ⟨fun _ _ _=>Le.none,fun _ _ _ _=>Le.none,fun _ _ _ _ _ _=>Le.none,fun _ _ _ _ _ _=>Le.none,fun _ _ _ _ _ _ _=>Le.none⟩
 | succ fu ih=>
  obtain ⟨ih0,ih1,ih2,ih3,ih4⟩:=ih
  refine ⟨fun l nesting syntaxReport=>?_,fun l nesting o03 v14=>?_,fun l nesting o0 x1 x3 v141=>?_,fun l nesting o01 x1 x3 v142=>?_,fun l nesting o02 x1 x3 v143 v84=>?_⟩
  ·rw [I5,P4]
   repeat (with_reducible first | exact Le.rfl | exact ih0 _ _ _ | exact ih1 _ _ _ _ | exact ih2 _ _ _ _ _ _ | exact ih3 _ _ _ _ _ _ | exact ih4 _ _ _ _ _ _ _ | exact J2 fu _ _ | exact Za fu _ | exact U1 fu _ _ | exact E3 fu _ _ _ | exact J5 fu _ | exact Z1 fu _ _ | exact U6 fu _ _ _ | exact M7 fu _ _ | exact N0 _ | refine Le.bind ?_ (fun _=>?_) | refine Le.ite ?_ ?_ | (rename_i x; cases x))
  ·rw [Z9,H8]
   repeat (with_reducible first | exact Le.rfl | exact ih0 _ _ _ | exact ih1 _ _ _ _ | exact ih2 _ _ _ _ _ _ | exact ih3 _ _ _ _ _ _ | exact ih4 _ _ _ _ _ _ _ | exact J2 fu _ _ | exact Za fu _ | exact U1 fu _ _ | exact E3 fu _ _ _ | exact J5 fu _ | exact Z1 fu _ _ | exact U6 fu _ _ _ | exact M7 fu _ _ | exact N0 _ | refine Le.bind ?_ (fun _=>?_) | refine Le.ite ?_ ?_ | (rename_i x; cases x))
  ·rw [Aa,I8]
   repeat (with_reducible first | exact Le.rfl | exact ih0 _ _ _ | exact ih1 _ _ _ _ | exact ih2 _ _ _ _ _ _ | exact ih3 _ _ _ _ _ _ | exact ih4 _ _ _ _ _ _ _ | exact J2 fu _ _ | exact Za fu _ | exact U1 fu _ _ | exact E3 fu _ _ _ | exact J5 fu _ | exact Z1 fu _ _ | exact U6 fu _ _ _ | exact M7 fu _ _ | exact N0 _ | refine Le.bind ?_ (fun _=>?_) | refine Le.ite ?_ ?_ | (rename_i x; cases x))
  ·rw [Ba,J8]
   repeat (with_reducible first | exact Le.rfl | exact ih0 _ _ _ | exact ih1 _ _ _ _ | exact ih2 _ _ _ _ _ _ | exact ih3 _ _ _ _ _ _ | exact ih4 _ _ _ _ _ _ _ | exact J2 fu _ _ | exact Za fu _ | exact U1 fu _ _ | exact E3 fu _ _ _ | exact J5 fu _ | exact Z1 fu _ _ | exact U6 fu _ _ _ | exact M7 fu _ _ | exact N0 _ | refine Le.bind ?_ (fun _=>?_) | refine Le.ite ?_ ?_ | (rename_i x; cases x))
  ·rw [Ca,K8]
   repeat (with_reducible first | exact Le.rfl | exact ih0 _ _ _ | exact ih1 _ _ _ _ | exact ih2 _ _ _ _ _ _ | exact ih3 _ _ _ _ _ _ | exact ih4 _ _ _ _ _ _ _ | exact J2 fu _ _ | exact Za fu _ | exact U1 fu _ _ | exact E3 fu _ _ _ | exact J5 fu _ | exact Z1 fu _ _ | exact U6 fu _ _ _ | exact M7 fu _ _ | exact N0 _ | refine Le.bind ?_ (fun _=>?_) | refine Le.ite ?_ ?_ | (rename_i x; cases x))
theorem D6 (fu:Nat)(l:List J0)(nesting:Int)(syntaxReport:D0):Le (I5 fu l nesting syntaxReport) (P4 l nesting syntaxReport):=(Pr fu).1 l nesting syntaxReport
mutual
def V6:Nat→(List E0)→D0→Option D0
 | 0,_,_=>none
 | fu+1,l,syntaxReport=>
  Da fu l syntaxReport 0
def Da:Nat→(List E0)→D0→Int→Option D0
 | 0,_,_,_=>none
 | fu+1,l,o03,v15=>
  if (decide (v15 < ((l).length:Int)))=true then
   idx l v15>>=fun x1=>
   Pj fu x1.Kind>>=fun x2=>
   G1 fu x2.1 (D0.mk (IntKind.i64.wrap (o03.nodes+1)) o03.depth o03.badForm o03.badName o03.badNumber)>>=fun x3=>
   (if (!x2.1)=true then Wc fu x1.TypeV (L0.mk 0 0 0 0 [] [] []) else some default)>>=fun x4=>
   if (bif x2.1 then true else (!x4))=true then
    Ya fu x1.TypeV 1 x3>>=fun x5=>
    Ea fu l x5 x1 x2 v15
   else
    Ea fu l x3 x1 x2 v15
  else
   some o03
def Ea:Nat→(List E0)→D0→E0→(Bool×Bool)→Int→Option D0
 | 0,_,_,_,_,_=>none
 | fu+1,l,o0,x1,x2,v151=>
  T5 fu x1.Name o0>>=fun x6=>
  L7 fu x1.Value x2.2 x6>>=fun x7=>
  G1 fu (bif (x1.Kind == 4) then true else (x1.Init == 0)) x7>>=fun x8=>
  C4 fu x1.Init (-1048576) 1048576>>=fun x9=>
  (if (x9&&(!(x1.TypeV.Kind != 0)))=true then C4 fu x1.Init 0 1 else some default)>>=fun x10=>
  B3 fu (bif x9 then (bif (x1.TypeV.Kind != 0) then true else x10) else false) x8>>=fun x11=>
  G1 fu (bif (x1.Kind == 6) then true else (bif (bif (((x1.Params).length:Int) == 0) then (((x1.Vars).length:Int) == 0) else false) then (((x1.Body).length:Int) == 0) else false)) x11>>=fun x12=>
  Fa fu l x12 x1 v151 0
def Fa:Nat→(List E0)→D0→E0→Int→Int→Option D0
 | 0,_,_,_,_,_=>none
 | fu+1,l,o01,x1,v152,v109=>
  if (decide (v109 < ((x1.Params).length:Int)))=true then
   idx x1.Params v109>>=fun x13=>
   G1 fu (bif (x13.Kind == 4) then (x13.Init == 0) else false) o01>>=fun x14=>
   Fa fu l x14 x1 v152 (IntKind.i64.wrap (v109+1))
  else
   Ga fu l o01 x1 v152 0
def Ga:Nat→(List E0)→D0→E0→Int→Int→Option D0
 | 0,_,_,_,_,_=>none
 | fu+1,l,o02,x1,v153,v127=>
  if (decide (v127 < ((x1.Vars).length:Int)))=true then
   idx x1.Vars v127>>=fun x15=>
   G1 fu (x15.Kind == 4) o02>>=fun x16=>
   Ga fu l x16 x1 v153 (IntKind.i64.wrap (v127+1))
  else
   V6 fu x1.Params o02>>=fun x17=>
   V6 fu x1.Vars x17>>=fun x18=>
   I5 fu x1.Body 1 x18>>=fun x19=>
   Da fu l x19 (IntKind.i64.wrap (v153+1))
end
theorem Rr (fu:Nat):(∀ (l:List E0) (syntaxReport:D0),Le (V6 fu l syntaxReport) (Y4 l syntaxReport))∧(∀ (l:List E0) (o03:D0) (v15:Int),Le (Da fu l o03 v15) (L8 l o03 v15))∧(∀ (l:List E0) (o0:D0) (x1:E0) (x2:Bool×Bool) (v151:Int),Le (Ea fu l o0 x1 x2 v151) (M8 l o0 x1 x2 v151))∧(∀ (l:List E0) (o01:D0) (x1:E0) (v152:Int) (v109:Int),Le (Fa fu l o01 x1 v152 v109) (N8 l o01 x1 v152 v109))∧(∀ (l:List E0) (o02:D0) (x1:E0) (v153:Int) (v127:Int),Le (Ga fu l o02 x1 v153 v127) (O8 l o02 x1 v153 v127)):=by
 induction fu with
 | zero=>exact ⟨fun _ _=>Le.none,fun _ _ _=>Le.none,fun _ _ _ _ _=>Le.none,fun _ _ _ _ _=>Le.none,fun _ _ _ _ _=>Le.none⟩
 | succ fu ih=>
  obtain ⟨ih0,ih1,ih2,ih3,ih4⟩:=ih
  refine ⟨fun l syntaxReport=>?_,fun l o03 v15=>?_,fun l o0 x1 x2 v151=>?_,fun l o01 x1 v152 v109=>?_,fun l o02 x1 v153 v127=>?_⟩
  ·rw [V6,Y4]
   repeat (with_reducible first | exact Le.rfl | exact ih0 _ _ | exact ih1 _ _ _ | exact ih2 _ _ _ _ _ | exact ih3 _ _ _ _ _ | exact ih4 _ _ _ _ _ | exact Vc fu _ | exact U1 fu _ _ | exact Xa fu _ _ | exact Y9 fu _ _ _ | exact Z1 fu _ _ | exact E3 fu _ _ _ | exact X2 fu _ _ _ | exact D2 fu _ _ | exact D6 fu _ _ _ | exact N0 _ | refine Le.bind ?_ (fun _=>?_) | refine Le.ite ?_ ?_ | (rename_i x; cases x))
  ·rw [Da,L8]
   repeat (with_reducible first | exact Le.rfl | exact ih0 _ _ | exact ih1 _ _ _ | exact ih2 _ _ _ _ _ | exact ih3 _ _ _ _ _ | exact ih4 _ _ _ _ _ | exact Vc fu _ | exact U1 fu _ _ | exact Xa fu _ _ | exact Y9 fu _ _ _ | exact Z1 fu _ _ | exact E3 fu _ _ _ | exact X2 fu _ _ _ | exact D2 fu _ _ | exact D6 fu _ _ _ | exact N0 _ | refine Le.bind ?_ (fun _=>?_) | refine Le.ite ?_ ?_ | (rename_i x; cases x))
  ·rw [Ea,M8]
   repeat (with_reducible first | exact Le.rfl | exact ih0 _ _ | exact ih1 _ _ _ | exact ih2 _ _ _ _ _ | exact ih3 _ _ _ _ _ | exact ih4 _ _ _ _ _ | exact Vc fu _ | exact U1 fu _ _ | exact Xa fu _ _ | exact Y9 fu _ _ _ | exact Z1 fu _ _ | exact E3 fu _ _ _ | exact X2 fu _ _ _ | exact D2 fu _ _ | exact D6 fu _ _ _ | exact N0 _ | refine Le.bind ?_ (fun _=>?_) | refine Le.ite ?_ ?_ | (rename_i x; cases x))
  ·rw [Fa,N8]
   repeat (with_reducible first | exact Le.rfl | exact ih0 _ _ | exact ih1 _ _ _ | exact ih2 _ _ _ _ _ | exact ih3 _ _ _ _ _ | exact ih4 _ _ _ _ _ | exact Vc fu _ | exact U1 fu _ _ | exact Xa fu _ _ | exact Y9 fu _ _ _ | exact Z1 fu _ _ | exact E3 fu _ _ _ | exact X2 fu _ _ _ | exact D2 fu _ _ | exact D6 fu _ _ _ | exact N0 _ | refine Le.bind ?_ (fun _=>?_) | refine Le.ite ?_ ?_ | (rename_i x; cases x))
  ·rw [Ga,O8]
   repeat (with_reducible first | exact Le.rfl | exact ih0 _ _ | exact ih1 _ _ _ | exact ih2 _ _ _ _ _ | exact ih3 _ _ _ _ _ | exact ih4 _ _ _ _ _ | exact Vc fu _ | exact U1 fu _ _ | exact Xa fu _ _ | exact Y9 fu _ _ _ | exact Z1 fu _ _ | exact E3 fu _ _ _ | exact X2 fu _ _ _ | exact D2 fu _ _ | exact D6 fu _ _ _ | exact N0 _ | refine Le.bind ?_ (fun _=>?_) | refine Le.ite ?_ ?_ | (rename_i x; cases x))
theorem Us (fu:Nat)(l:List E0)(syntaxReport:D0):Le (V6 fu l syntaxReport) (Y4 l syntaxReport):=(Rr fu).1 l syntaxReport
def Mk (fu:Nat)(p:E1):Option D0:=
 V6 fu p.Decls (D0.mk 0 0 false false false)>>=fun x1=>
 I5 fu p.Body 1 x1>>=fun x2=>
 some x2
theorem Ux (fu:Nat)(p:E1):Le (Mk fu p) (Fg p):=by
 unfold Mk Fg
 repeat (with_reducible first | exact Le.rfl | exact Us fu _ _ | exact D6 fu _ _ _ | exact N0 _ | refine Le.bind ?_ (fun _=>?_) | refine Le.ite ?_ ?_ | (rename_i x; cases x))
def Sh (fu:Nat)(syntaxReport:D0):Option Int:=
 if (bif (decide (syntaxReport.nodes > 1024)) then true else (decide (syntaxReport.depth > 12)))=true then
  some 4
 else
  if syntaxReport.badForm=true then
   some 1
  else
   if syntaxReport.badName=true then
    some 7
   else
    if syntaxReport.badNumber=true then
     some 3
    else
     some 0
theorem Nu (fu:Nat)(syntaxReport:D0):Le (Sh fu syntaxReport) (Rc syntaxReport):=by
 unfold Sh Rc
 repeat (with_reducible first | exact Le.rfl | exact N0 _ | refine Le.bind ?_ (fun _=>?_) | refine Le.ite ?_ ?_ | (rename_i x; cases x))
def Rn (fu:Nat)(p:E1):Option Int:=
 Mk fu p>>=fun x1=>
 Sh fu x1>>=fun x2=>
 some x2
theorem O10 (fu:Nat)(p:E1):Le (Rn fu p) (Xi p):=by
 unfold Rn Xi
 repeat (with_reducible first | exact Le.rfl | exact Ux fu _ | exact Nu fu _ | exact N0 _ | refine Le.bind ?_ (fun _=>?_) | refine Le.ite ?_ ?_ | (rename_i x; cases x))
def Sn (fu:Nat)(text:Str):Option (E1×Int×Int):=
 Kk fu text (E1.mk [] [])>>=fun x1=>
 if (x1.2.1 != 0)=true then
  some ((E1.mk [] []),x1.1,x1.2.1)
 else
  Rn fu x1.2.2>>=fun x2=>
  if (x2 != 0)=true then
   some ((E1.mk [] []),0,x2)
  else
   some (x1.2.2,0,0)
theorem P10 (fu:Nat)(text:Str):Le (Sn fu text) (Yi text):=by
 unfold Sn Yi
 repeat (with_reducible first | exact Le.rfl | exact Tx fu _ _ | exact O10 fu _ | exact N0 _ | refine Le.bind ?_ (fun _=>?_) | refine Le.ite ?_ ?_ | (rename_i x; cases x))
def Qd:Nat→Str→Str→Str→Str→Str→Str→Str→Int→Option (E1×Int)
 | 0,_,_,_,_,_,_,_,_=>none
 | fu+1,text,list,x3,x4,x5,x6,x7,v58=>
  if (decide (v58 < (([(P1.mk [60,65,62] x3),(P1.mk [60,66,62] x4),(P1.mk [60,84,62] x5),(P1.mk [60,97,62] x6),(P1.mk [60,98,62] x7),(P1.mk [60,78,62] list)]).length:Int)))=true then
   idx [(P1.mk [60,65,62] x3),(P1.mk [60,66,62] x4),(P1.mk [60,84,62] x5),(P1.mk [60,97,62] x6),(P1.mk [60,98,62] x7),(P1.mk [60,78,62] list)] v58>>=fun x8=>
   Kq text x8.x0 x8.x1>>=fun x9=>
   Qd fu x9 list x3 x4 x5 x6 x7 (IntKind.i64.wrap (v58+1))
  else
   Sn fu text>>=fun x10=>
   if (x10.2.2 != 0)=true then
    some ((E1.mk [] []),x10.2.2)
   else
    some (x10.1,0)
theorem Yv (fu:Nat):(∀ (text:Str) (list:Str) (x3:Str) (x4:Str) (x5:Str) (x6:Str) (x7:Str) (v58:Int),Le (Qd fu text list x3 x4 x5 x6 x7 v58) (Y7 text list x3 x4 x5 x6 x7 v58)):=by
 induction fu with
 | zero=>exact fun _ _ _ _ _ _ _ _=>Le.none
 | succ fu ih=>
  have ih0:=ih
  refine fun text list x3 x4 x5 x6 x7 v58=>?_
  ·rw [Qd,Y7]
   repeat (with_reducible first | exact Le.rfl | exact ih0 _ _ _ _ _ _ _ _ | exact P10 fu _ | exact N0 _ | refine Le.bind ?_ (fun _=>?_) | refine Le.ite ?_ ?_ | (rename_i x; cases x))
theorem Zw (fu:Nat)(text:Str)(list:Str)(x3:Str)(x4:Str)(x5:Str)(x6:Str)(x7:Str)(v58:Int):Le (Qd fu text list x3 x4 x5 x6 x7 v58) (Y7 text list x3 x4 x5 x6 x7 v58):=(Yv fu) text list x3 x4 x5 x6 x7 v58
def Qf (fu:Nat)(a:Int)(b:Int)(x1:K0×Int)(list:Str):Option (E1×Int):=
 Mi (IntKind.i64.wrap (a - 1))>>=fun x3=>
 Mi (IntKind.i64.wrap (b - 1))>>=fun x4=>
 Mi (IntKind.i64.wrap (a * b))>>=fun x5=>
 Mi a>>=fun x6=>
 Mi b>>=fun x7=>
 Qd fu x1.1.text list x3 x4 x5 x6 x7 0
theorem Ax (fu:Nat)(a:Int)(b:Int)(x1:K0×Int)(list:Str):Le (Qf fu a b x1 list) (Dd a b x1 list):=by
 unfold Qf Dd
 repeat (with_reducible first | exact Le.rfl | exact Zw fu _ _ _ _ _ _ _ _ | exact N0 _ | refine Le.bind ?_ (fun _=>?_) | refine Le.ite ?_ ?_ | (rename_i x; cases x))
def Tn (fu:Nat)(family:Str)(a:Int)(b:Int):Option (E1×Int):=
 Ij fu family a b>>=fun x1=>
 if (x1.2 != 0)=true then
  some ((E1.mk [] []),x1.2)
 else
  if (x1.1.name == [115,101,97,114,99,104])=true then
   Ul fu a b>>=fun x2=>
   Qf fu a b x1 x2
  else
   Qf fu a b x1 []
theorem Q10 (fu:Nat)(family:Str)(a:Int)(b:Int):Le (Tn fu family a b) (Zi family a b):=by
 unfold Tn Zi
 repeat (with_reducible first | exact Le.rfl | exact As fu _ _ _ | exact Sy fu _ _ | exact Ax fu _ _ _ _ | exact N0 _ | refine Le.bind ?_ (fun _=>?_) | refine Le.ite ?_ ?_ | (rename_i x; cases x))
def Kp (fu:Nat):Option Bool:=
 Gi fu [100,105,103,105,116,115] 3 4>>=fun x1=>
 Gi fu [115,101,97,114,99,104] 10 3>>=fun x2=>
 Tn fu [112,97,114,105,116,121] 4 0>>=fun x3=>
 some (bif (bif (bif (bif (bif (bif (bif (bif (x1.2.2 == 0) then (x2.2.2 == 0) else false) then (x3.2 == 0) else false) then (x1.1 == 4) else false) then (x1.2.1 == 2) else false) then (x2.1 == 3) else false) then (x2.2.1 == 1) else false) then (((x3.1.Decls).length:Int) == 1) else false) then (((x3.1.Body).length:Int) == 1) else false)
theorem G11 (fu:Nat):Le (Kp fu ) (Rb ):=by
 unfold Kp Rb
 repeat (with_reducible first | exact Le.rfl | exact Ry fu _ _ _ | exact Q10 fu _ _ _ | exact N0 _ | refine Le.bind ?_ (fun _=>?_) | refine Le.ite ?_ ?_ | (rename_i x; cases x))
end Go.Proofs.YtbaijagfgceilaaGreatDoor

