/- A part of the proof of CatalogFamilies. -/
import Derived.Test.YtbaijagfgceilaaGreatDoorDgA
import Derived.Test.YtbaijagfgceilaaGreatDoorAmB
set_option maxRecDepth 100000
set_option maxHeartbeats 4000000
set_option synthInstance.maxSize 20000
set_option linter.unusedVariables false
namespace Go.Proofs.YtbaijagfgceilaaGreatDoor
open Go.Am
def C4 (o02:A0)(x1:Str×A0)(x7:L0×A0)(o2_Params2:List E0)(o2_Vars:List E0):Option (Pn (E0×A0)):=
 S0 [118,97,114] o02>>=fun x9=>
 if x9.1=true then
  D6 x9.2>>=fun x10=>match x10 with
  | .pn nn=>
  some (.pn nn)
  | .ok x10=>
  if (decide ((o2_Vars.length+1) * 257≤140737488355328))=true then
   C4 x10.2 x1 x7 o2_Params2 (o2_Vars++[x10.1])
  else none
 else
  X3 x9.2>>=fun x11=>match x11 with
  | .pn nn=>
  some (.pn nn)
  | .ok x11=>
  U0 [114,101,116,117,114,110] x11.2>>=fun x12=>match x12 with
  | .pn nn=>
  some (.pn nn)
  | .ok x12=>
  T1 x12>>=fun x13=>match x13 with
  | .pn nn=>
  some (.pn nn)
  | .ok x13=>
  U0 [59] x13.2>>=fun x14=>match x14 with
  | .pn nn=>
  some (.pn nn)
  | .ok x14=>
  U0 [125] x14>>=fun x15=>match x15 with
  | .pn nn=>
  some (.pn nn)
  | .ok x15=>
  some (.ok ((E0.mk 6 x1.1 x7.1 0 x13.1 o2_Params2 o2_Vars x11.1),x15))
 partial_fixpoint
abbrev Wg (o02:A0)(x1:Str×A0)(x7:L0×A0)(o2_Params2:List E0)(o2_Vars:List E0)(res:Pn (E0×A0)):Prop:=LMp C 58 1 Tryz.f103 [1,1,1,1,1,1,1,1,0,4] [(0,.ref 0 0),(2,.ref 1 0),(3,.ref 2 0)] [.row (A0.cells o02) 112,.row [.d (.int .i64 0),.d (.str []),.d (.int .i64 0),.d (.int .i64 0),.d (.int .i64 0),.d (.int .i64 0),.d (.str []),.full (estr.rows []),.full (L0.rows []),.d (.int .i64 0),.d (.int .i64 0),.d (.int .i64 0),.d (.str []),.full (B0.rows []),.full (E0.rows []),.full (E0.rows []),.full (J0.rows [])] 82,.row [.d (.int .i64 6),.d (.str x1.1),.d (.int .i64 x7.1.Kind),.d (.int .i64 x7.1.Low),.d (.int .i64 x7.1.High),.d (.int .i64 x7.1.Size),.d (.str x7.1.Name),.d (.sl (estr.rows x7.1.Names)),.d (.sl (L0.rows x7.1.Of)),.d (.int .i64 0),.d (.int .i64 0),.d (.int .i64 0),.d (.str []),.full (B0.rows []),.osl 3 (E0.rows o2_Params2),.osl 4 (E0.rows o2_Vars),.full (J0.rows [])] 82,.tok 82 17,.tok 82 17] (P4 res (fun rr=>[.row (A0.cells rr.2) 112]) (fun rr=>.agg (E0.cells rr.1))) (H4 res O3 [.dead])
theorem Lm (x1:Str×A0)(x7:L0×A0)(o2_Params2:List E0):(∀ o02 o2_Vars res,C4 o02 x1 x7 o2_Params2 o2_Vars=some res→Wg o02 x1 x7 o2_Params2 o2_Vars res):=by
 refine C4.partial_correctness x1 x7 o2_Params2 _ ?_
 ·intro g0 ih0 o02 o2_Vars res hh
  obtain ⟨x9,hx9,hh⟩:=bs' hh
  refine F1.unroll (S' (p' 1 rfl (gq [0] (O0 hx9) rfl (n' (ci' rfl hh (fun hh=>?_) (fun hh=>?_))))))
  ·refine sk' (bk' ?_)
   rcases bp' hh with ⟨nn,hx10,⟨⟩⟩ | ⟨x10,hx10,hh⟩
   ·refine AEx.drawE hC ?_
    refine st2 0 2 rfl (by kernel_rfl) rfl rfl ?_ ?_
    ·refine e' rfl ?_
     refine st2 1 2 rfl (by kernel_rfl) rfl rfl ?_ ?_
     ·refine e' rfl ?_
      refine st1 2 rfl (by kernel_rfl) rfl ?_
      refine e' rfl ?_
      refine st1 3 rfl (by kernel_rfl) rfl ?_
      exact gr [0] (E2 hx10) rfl (peW ⟨trivial,trivial⟩ rfl)
     ·refine e' rfl ?_
      refine st2 1 3 rfl (by kernel_rfl) rfl rfl ?_ ?_
      ·refine e' rfl ?_
       refine st1 3 rfl (by kernel_rfl) rfl ?_
       exact gr [0] (E2 hx10) rfl (peW ⟨trivial,trivial⟩ rfl)
      ·exact gr [0] (E2 hx10) rfl (peW ⟨trivial,trivial⟩ rfl)
    ·refine e' rfl ?_
     refine st2 0 3 rfl (by kernel_rfl) rfl rfl ?_ ?_
     ·refine e' rfl ?_
      refine st2 1 3 rfl (by kernel_rfl) rfl rfl ?_ ?_
      ·refine e' rfl ?_
       refine st1 3 rfl (by kernel_rfl) rfl ?_
       exact gr [0] (E2 hx10) rfl (peW ⟨trivial,trivial⟩ rfl)
      ·exact gr [0] (E2 hx10) rfl (peW ⟨trivial,trivial⟩ rfl)
     ·exact gr [0] (E2 hx10) rfl (peW ⟨trivial,trivial⟩ rfl)
   obtain ⟨c32,hh⟩:=V4 hh
   refine AEx.drawE hC ?_
   refine st2 0 2 rfl (by kernel_rfl) rfl rfl ?_ ?_
   ·refine e' rfl ?_
    refine st2 1 2 rfl (by kernel_rfl) rfl rfl ?_ ?_
    ·refine e' rfl ?_
     refine st1 2 rfl (by kernel_rfl) rfl ?_
     refine e' rfl ?_
     refine st1 3 rfl (by kernel_rfl) rfl ?_
     refine gq [0] ((E2 hx10).ok) rfl (n' ?_)
     refine st1 4 rfl (by kernel_rfl) rfl ?_
     refine C0.be hC rfl (E0.rows_map [x10.1]).symm (n' ?_)
     refine st1 5 rfl (by kernel_rfl) rfl ?_
     refine C0.ap hC rfl (rs:=E0.rows (o2_Vars++[x10.1])) (E0.app o2_Vars [x10.1]) (E0.sz o2_Vars) (E0.sz [x10.1]) (V1 (E0.len o2_Vars) (E0.len [x10.1]) c32) (n' ?_)
     refine st1 6 rfl (by kernel_rfl) rfl ?_
     refine e' rfl ?_
     refine st1 7 rfl (by kernel_rfl) rfl ?_
     exact C0.s hC rfl (n' (V0.nil (by kernel_rfl) (lq (ih0 _ _ _ hh) rfl)))
    ·refine e' rfl ?_
     refine st2 1 3 rfl (by kernel_rfl) rfl rfl ?_ ?_
     ·refine e' rfl ?_
      refine st1 3 rfl (by kernel_rfl) rfl ?_
      refine gq [0] ((E2 hx10).ok) rfl (n' ?_)
      refine st1 4 rfl (by kernel_rfl) rfl ?_
      refine C0.be hC rfl (E0.rows_map [x10.1]).symm (n' ?_)
      refine st1 5 rfl (by kernel_rfl) rfl ?_
      refine C0.ap hC rfl (rs:=E0.rows (o2_Vars++[x10.1])) (E0.app o2_Vars [x10.1]) (E0.sz o2_Vars) (E0.sz [x10.1]) (V1 (E0.len o2_Vars) (E0.len [x10.1]) c32) (n' ?_)
      refine st1 6 rfl (by kernel_rfl) rfl ?_
      refine e' rfl ?_
      refine st1 7 rfl (by kernel_rfl) rfl ?_
      exact C0.s hC rfl (n' (V0.nil (by kernel_rfl) (lq (ih0 _ _ _ hh) rfl)))
     ·refine gq [0] ((E2 hx10).ok) rfl (n' ?_)
      refine st2 1 4 rfl (by kernel_rfl) rfl rfl ?_ ?_
      ·refine e' rfl ?_
       refine st1 4 rfl (by kernel_rfl) rfl ?_
       refine C0.be hC rfl (E0.rows_map [x10.1]).symm (n' ?_)
       refine st1 5 rfl (by kernel_rfl) rfl ?_
       refine C0.ap hC rfl (rs:=E0.rows (o2_Vars++[x10.1])) (E0.app o2_Vars [x10.1]) (E0.sz o2_Vars) (E0.sz [x10.1]) (V1 (E0.len o2_Vars) (E0.len [x10.1]) c32) (n' ?_)
       refine st1 6 rfl (by kernel_rfl) rfl ?_
       refine e' rfl ?_
       refine st1 7 rfl (by kernel_rfl) rfl ?_
       exact C0.s hC rfl (n' (V0.nil (by kernel_rfl) (lq (ih0 _ _ _ hh) rfl)))
      ·refine C0.be hC rfl (E0.rows_map [x10.1]).symm (n' ?_)
       refine st1 1 rfl (by kernel_rfl) rfl ?_
       refine e' rfl ?_
       refine st1 5 rfl (by kernel_rfl) rfl ?_
       refine C0.ap hC rfl (rs:=E0.rows (o2_Vars++[x10.1])) (E0.app o2_Vars [x10.1]) (E0.sz o2_Vars) (E0.sz [x10.1]) (V1 (E0.len o2_Vars) (E0.len [x10.1]) c32) (n' ?_)
       refine st1 6 rfl (by kernel_rfl) rfl ?_
       refine e' rfl ?_
       refine st1 7 rfl (by kernel_rfl) rfl ?_
       exact C0.s hC rfl (n' (V0.nil (by kernel_rfl) (lq (ih0 _ _ _ hh) rfl)))
   ·refine e' rfl ?_
    refine st2 0 3 rfl (by kernel_rfl) rfl rfl ?_ ?_
    ·refine e' rfl ?_
     refine st2 1 3 rfl (by kernel_rfl) rfl rfl ?_ ?_
     ·refine e' rfl ?_
      refine st1 3 rfl (by kernel_rfl) rfl ?_
      refine gq [0] ((E2 hx10).ok) rfl (n' ?_)
      refine st1 4 rfl (by kernel_rfl) rfl ?_
      refine C0.be hC rfl (E0.rows_map [x10.1]).symm (n' ?_)
      refine st1 5 rfl (by kernel_rfl) rfl ?_
      refine C0.ap hC rfl (rs:=E0.rows (o2_Vars++[x10.1])) (E0.app o2_Vars [x10.1]) (E0.sz o2_Vars) (E0.sz [x10.1]) (V1 (E0.len o2_Vars) (E0.len [x10.1]) c32) (n' ?_)
      refine st1 6 rfl (by kernel_rfl) rfl ?_
      refine e' rfl ?_
      refine st1 7 rfl (by kernel_rfl) rfl ?_
      exact C0.s hC rfl (n' (V0.nil (by kernel_rfl) (lq (ih0 _ _ _ hh) rfl)))
     ·refine gq [0] ((E2 hx10).ok) rfl (n' ?_)
      refine st2 1 4 rfl (by kernel_rfl) rfl rfl ?_ ?_
      ·refine e' rfl ?_
       refine st1 4 rfl (by kernel_rfl) rfl ?_
       refine C0.be hC rfl (E0.rows_map [x10.1]).symm (n' ?_)
       refine st1 5 rfl (by kernel_rfl) rfl ?_
       refine C0.ap hC rfl (rs:=E0.rows (o2_Vars++[x10.1])) (E0.app o2_Vars [x10.1]) (E0.sz o2_Vars) (E0.sz [x10.1]) (V1 (E0.len o2_Vars) (E0.len [x10.1]) c32) (n' ?_)
       refine st1 6 rfl (by kernel_rfl) rfl ?_
       refine e' rfl ?_
       refine st1 7 rfl (by kernel_rfl) rfl ?_
       exact C0.s hC rfl (n' (V0.nil (by kernel_rfl) (lq (ih0 _ _ _ hh) rfl)))
      ·refine C0.be hC rfl (E0.rows_map [x10.1]).symm (n' ?_)
       refine st1 1 rfl (by kernel_rfl) rfl ?_
       refine e' rfl ?_
       refine st1 5 rfl (by kernel_rfl) rfl ?_
       refine C0.ap hC rfl (rs:=E0.rows (o2_Vars++[x10.1])) (E0.app o2_Vars [x10.1]) (E0.sz o2_Vars) (E0.sz [x10.1]) (V1 (E0.len o2_Vars) (E0.len [x10.1]) c32) (n' ?_)
       refine st1 6 rfl (by kernel_rfl) rfl ?_
       refine e' rfl ?_
       refine st1 7 rfl (by kernel_rfl) rfl ?_
       exact C0.s hC rfl (n' (V0.nil (by kernel_rfl) (lq (ih0 _ _ _ hh) rfl)))
    ·refine gq [0] ((E2 hx10).ok) rfl (n' ?_)
     refine st2 0 4 rfl (by kernel_rfl) rfl rfl ?_ ?_
     ·refine e' rfl ?_
      refine st2 1 4 rfl (by kernel_rfl) rfl rfl ?_ ?_
      ·refine e' rfl ?_
       refine st1 4 rfl (by kernel_rfl) rfl ?_
       refine C0.be hC rfl (E0.rows_map [x10.1]).symm (n' ?_)
       refine st1 5 rfl (by kernel_rfl) rfl ?_
       refine C0.ap hC rfl (rs:=E0.rows (o2_Vars++[x10.1])) (E0.app o2_Vars [x10.1]) (E0.sz o2_Vars) (E0.sz [x10.1]) (V1 (E0.len o2_Vars) (E0.len [x10.1]) c32) (n' ?_)
       refine st1 6 rfl (by kernel_rfl) rfl ?_
       refine e' rfl ?_
       refine st1 7 rfl (by kernel_rfl) rfl ?_
       exact C0.s hC rfl (n' (V0.nil (by kernel_rfl) (lq (ih0 _ _ _ hh) rfl)))
      ·refine C0.be hC rfl (E0.rows_map [x10.1]).symm (n' ?_)
       refine st1 1 rfl (by kernel_rfl) rfl ?_
       refine e' rfl ?_
       refine st1 5 rfl (by kernel_rfl) rfl ?_
       refine C0.ap hC rfl (rs:=E0.rows (o2_Vars++[x10.1])) (E0.app o2_Vars [x10.1]) (E0.sz o2_Vars) (E0.sz [x10.1]) (V1 (E0.len o2_Vars) (E0.len [x10.1]) c32) (n' ?_)
       refine st1 6 rfl (by kernel_rfl) rfl ?_
       refine e' rfl ?_
       refine st1 7 rfl (by kernel_rfl) rfl ?_
       exact C0.s hC rfl (n' (V0.nil (by kernel_rfl) (lq (ih0 _ _ _ hh) rfl)))
     ·refine C0.be hC rfl (E0.rows_map [x10.1]).symm (n' ?_)
      refine st1 0 rfl (by kernel_rfl) rfl ?_
      refine e' rfl ?_
      refine st1 1 rfl (by kernel_rfl) rfl ?_
      refine e' rfl ?_
      refine st1 5 rfl (by kernel_rfl) rfl ?_
      refine C0.ap hC rfl (rs:=E0.rows (o2_Vars++[x10.1])) (E0.app o2_Vars [x10.1]) (E0.sz o2_Vars) (E0.sz [x10.1]) (V1 (E0.len o2_Vars) (E0.len [x10.1]) c32) (n' ?_)
      refine st1 6 rfl (by kernel_rfl) rfl ?_
      refine e' rfl ?_
      refine st1 7 rfl (by kernel_rfl) rfl ?_
      exact C0.s hC rfl (n' (V0.nil (by kernel_rfl) (lq (ih0 _ _ _ hh) rfl)))
  refine ex' (p' 1 rfl ?_)
  rcases bp' hh with ⟨nn,hx11,⟨⟩⟩ | ⟨x11,hx11,hh⟩
  ·exact gr [0] (W7 hx11) rfl (peW ⟨trivial,trivial⟩ rfl)
  refine gq [0] ((W7 hx11).ok) rfl (q' rfl (C0.s hC rfl (n' (p' 1 rfl ?_))))
  rcases bp' hh with ⟨nn,hx12,⟨⟩⟩ | ⟨x12,hx12,hh⟩
  ·exact gr [0] (F0 hx12) rfl (peW ⟨trivial,trivial⟩ rfl)
  refine gq [0] ((F0 hx12).ok) rfl (n' (p' 1 rfl ?_))
  rcases bp' hh with ⟨nn,hx13,⟨⟩⟩ | ⟨x13,hx13,hh⟩
  ·exact gr [0] (T0 hx13) rfl (peW ⟨trivial,trivial⟩ rfl)
  refine gq [0] ((T0 hx13).ok) rfl (q' rfl (C0.s hC rfl (n' (p' 1 rfl ?_))))
  rcases bp' hh with ⟨nn,hx14,⟨⟩⟩ | ⟨x14,hx14,hh⟩
  ·exact gr [0] (F0 hx14) rfl (peW ⟨trivial,trivial⟩ rfl)
  refine gq [0] ((F0 hx14).ok) rfl (n' (p' 1 rfl ?_))
  rcases bp' hh with ⟨nn,hx15,⟨⟩⟩ | ⟨x15,hx15,hh⟩
  ·exact gr [0] (F0 hx15) rfl (peW ⟨trivial,trivial⟩ rfl)
  refine gq [0] ((F0 hx15).ok) rfl (n' (p' 1 rfl (C0.s hC rfl (n' (re' ?_)))))
  have hq:=oi' hh
  subst hq
  exact ⟨_,.agg [.d (.int .i64 6),.d (.str x1.1),.d (.int .i64 x7.1.Kind),.d (.int .i64 x7.1.Low),.d (.int .i64 x7.1.High),.d (.int .i64 x7.1.Size),.d (.str x7.1.Name),.d (.sl (estr.rows x7.1.Names)),.d (.sl (L0.rows x7.1.Of)),.d (.int .i64 0),.d (.int .i64 x13.1.Op),.d (.int .i64 x13.1.NV),.d (.str x13.1.Name),.d (.sl (B0.rows x13.1.Kids)),.d (.sl (E0.rows o2_Params2)),.d (.sl (E0.rows o2_Vars)),.d (.sl (J0.rows x11.1))],[.row (A0.cells x15) 112],rfl,(.aggL ⟨.rfl,.rfl,.rfl,.rfl,.rfl,.rfl,.rfl,.rfl,.rfl,.rfl,.rfl,.rfl,.rfl,.rfl,.osl,.osl,.rfl,trivial⟩),⟨⟨rfl,.refl _,rfl⟩,trivial⟩,rfl,rfl,rpq rfl rfl⟩
theorem Gn {o02 x1 x7 o2_Params2 o2_Vars res}(hh:C4 o02 x1 x7 o2_Params2 o2_Vars=some res):Wg o02 x1 x7 o2_Params2 o2_Vars res:=(Lm x1 x7 o2_Params2) _ _ _ hh
def G5 (o01:A0)(x1:Str×A0)(o2_Params1:List E0):Option (Pn (E0×A0)):=
 U0 [41] o01>>=fun x5=>match x5 with
 | .pn nn=>
 some (.pn nn)
 | .ok x5=>
 U0 [58] x5>>=fun x6=>match x6 with
 | .pn nn=>
 some (.pn nn)
 | .ok x6=>
 U4 x6>>=fun x7=>match x7 with
 | .pn nn=>
 some (.pn nn)
 | .ok x7=>
 U0 [123] x7.2>>=fun x8=>match x8 with
 | .pn nn=>
 some (.pn nn)
 | .ok x8=>
 C4 x8 x1 x7 o2_Params1 []
theorem Eg {o01 x1 o2_Params1 res}(hh:G5 o01 x1 o2_Params1=some res):JMp C 58 1 Tryz.f103 [1,1,1,1] [(0,.ref 0 0),(2,.ref 1 0),(3,.ref 2 0)] [.row (A0.cells o01) 112,.row [.d (.int .i64 0),.d (.str []),.d (.int .i64 0),.d (.int .i64 0),.d (.int .i64 0),.d (.int .i64 0),.d (.str []),.full (estr.rows []),.full (L0.rows []),.d (.int .i64 0),.d (.int .i64 0),.d (.int .i64 0),.d (.str []),.full (B0.rows []),.full (E0.rows []),.full (E0.rows []),.full (J0.rows [])] 82,.row [.d (.int .i64 6),.d (.str x1.1),.d (.int .i64 0),.d (.int .i64 0),.d (.int .i64 0),.d (.int .i64 0),.d (.str []),.full (estr.rows []),.full (L0.rows []),.d (.int .i64 0),.d (.int .i64 0),.d (.int .i64 0),.d (.str []),.full (B0.rows []),.osl 3 (E0.rows o2_Params1),.osl 4 (E0.rows []),.full (J0.rows [])] 82,.tok 82 17,.tok 82 17] (P4 res (fun rr=>[.row (A0.cells rr.2) 112]) (fun rr=>.agg (E0.cells rr.1))) (H4 res O3 [.dead]):=by
 unfold G5 at hh
 refine p' 1 rfl ?_
 rcases bp' hh with ⟨nn,hx5,⟨⟩⟩ | ⟨x5,hx5,hh⟩
 ·exact gr [0] (F0 hx5) rfl (peW ⟨trivial,trivial⟩ rfl)
 refine gq [0] ((F0 hx5).ok) rfl (n' (p' 1 rfl ?_))
 rcases bp' hh with ⟨nn,hx6,⟨⟩⟩ | ⟨x6,hx6,hh⟩
 ·exact gr [0] (F0 hx6) rfl (peW ⟨trivial,trivial⟩ rfl)
 refine gq [0] ((F0 hx6).ok) rfl (n' (p' 1 rfl ?_))
 rcases bp' hh with ⟨nn,hx7,⟨⟩⟩ | ⟨x7,hx7,hh⟩
 ·exact gr [0] (R7 hx7) rfl (peW ⟨trivial,trivial⟩ rfl)
 refine gq [0] ((R7 hx7).ok) rfl (q' rfl (C0.s hC rfl (n' (p' 1 rfl ?_))))
 rcases bp' hh with ⟨nn,hx8,⟨⟩⟩ | ⟨x8,hx8,hh⟩
 ·exact gr [0] (F0 hx8) rfl (peW ⟨trivial,trivial⟩ rfl)
 exact gq [0] ((F0 hx8).ok) rfl (n' (S' (bk' (fq (Gn hh) rfl))))
def D4 (o0:A0)(x1:Str×A0)(o2_Params:List E0):Option (Pn (E0×A0)):=
 S0 [44] o0>>=fun x16=>
 if x16.1=true then
  A4 4 x16.2>>=fun x17=>match x17 with
  | .pn nn=>
  some (.pn nn)
  | .ok x17=>
  if (decide ((o2_Params.length+1) * 257≤140737488355328))=true then
   D4 x17.2 x1 (o2_Params++[x17.1])
  else none
 else
  G5 x16.2 x1 o2_Params
 partial_fixpoint
abbrev Xg (o0:A0)(x1:Str×A0)(o2_Params:List E0)(res:Pn (E0×A0)):Prop:=LMp C 58 1 Tryz.f103 [1,1,1,0,1,2,1,4] [(0,.ref 0 0),(2,.ref 1 0),(3,.ref 2 0)] [.row (A0.cells o0) 112,.row [.d (.int .i64 0),.d (.str []),.d (.int .i64 0),.d (.int .i64 0),.d (.int .i64 0),.d (.int .i64 0),.d (.str []),.full (estr.rows []),.full (L0.rows []),.d (.int .i64 0),.d (.int .i64 0),.d (.int .i64 0),.d (.str []),.full (B0.rows []),.full (E0.rows []),.full (E0.rows []),.full (J0.rows [])] 82,.row [.d (.int .i64 6),.d (.str x1.1),.d (.int .i64 0),.d (.int .i64 0),.d (.int .i64 0),.d (.int .i64 0),.d (.str []),.full (estr.rows []),.full (L0.rows []),.d (.int .i64 0),.d (.int .i64 0),.d (.int .i64 0),.d (.str []),.full (B0.rows []),.osl 3 (E0.rows o2_Params),.osl 4 (E0.rows []),.full (J0.rows [])] 82,.tok 82 17,.tok 82 17] (P4 res (fun rr=>[.row (A0.cells rr.2) 112]) (fun rr=>.agg (E0.cells rr.1))) (H4 res O3 [.dead])
theorem Mm (x1:Str×A0):(∀ o0 o2_Params res,D4 o0 x1 o2_Params=some res→Xg o0 x1 o2_Params res):=by
 refine D4.partial_correctness x1 _ ?_
 ·intro g0 ih0 o0 o2_Params res hh
  obtain ⟨x16,hx16,hh⟩:=bs' hh
  refine F1.unroll (S' (p' 1 rfl (gq [0] (O0 hx16) rfl (n' (ci' rfl hh (fun hh=>?_) (fun hh=>?_))))))
  ·refine sk' (bk' ?_)
   rcases bp' hh with ⟨nn,hx17,⟨⟩⟩ | ⟨x17,hx17,hh⟩
   ·refine AEx.drawE hC ?_
    refine st2 0 2 rfl (by kernel_rfl) rfl rfl ?_ ?_
    ·refine e' rfl ?_
     refine st2 1 2 rfl (by kernel_rfl) rfl rfl ?_ ?_
     ·refine e' rfl ?_
      refine st1 2 rfl (by kernel_rfl) rfl ?_
      refine e' rfl ?_
      refine st1 3 rfl (by kernel_rfl) rfl ?_
      exact gr [0] (A1 hx17) rfl (peW ⟨trivial,trivial⟩ rfl)
     ·refine e' rfl ?_
      refine st2 1 3 rfl (by kernel_rfl) rfl rfl ?_ ?_
      ·refine e' rfl ?_
       refine st1 3 rfl (by kernel_rfl) rfl ?_
       exact gr [0] (A1 hx17) rfl (peW ⟨trivial,trivial⟩ rfl)
      ·exact gr [0] (A1 hx17) rfl (peW ⟨trivial,trivial⟩ rfl)
    ·refine e' rfl ?_
     refine st2 0 3 rfl (by kernel_rfl) rfl rfl ?_ ?_
     ·refine e' rfl ?_
      refine st2 1 3 rfl (by kernel_rfl) rfl rfl ?_ ?_
      ·refine e' rfl ?_
       refine st1 3 rfl (by kernel_rfl) rfl ?_
       exact gr [0] (A1 hx17) rfl (peW ⟨trivial,trivial⟩ rfl)
      ·exact gr [0] (A1 hx17) rfl (peW ⟨trivial,trivial⟩ rfl)
     ·exact gr [0] (A1 hx17) rfl (peW ⟨trivial,trivial⟩ rfl)
   obtain ⟨c31,hh⟩:=V4 hh
   refine AEx.drawE hC ?_
   refine st2 0 2 rfl (by kernel_rfl) rfl rfl ?_ ?_
   ·refine e' rfl ?_
    refine st2 1 2 rfl (by kernel_rfl) rfl rfl ?_ ?_
    ·refine e' rfl ?_
     refine st1 2 rfl (by kernel_rfl) rfl ?_
     refine e' rfl ?_
     refine st1 3 rfl (by kernel_rfl) rfl ?_
     refine gq [0] ((A1 hx17).ok) rfl (n' ?_)
     refine st1 4 rfl (by kernel_rfl) rfl ?_
     refine C0.be hC rfl (E0.rows_map [x17.1]).symm (n' ?_)
     refine st1 5 rfl (by kernel_rfl) rfl ?_
     refine C0.ap hC rfl (rs:=E0.rows (o2_Params++[x17.1])) (E0.app o2_Params [x17.1]) (E0.sz o2_Params) (E0.sz [x17.1]) (V1 (E0.len o2_Params) (E0.len [x17.1]) c31) (n' ?_)
     refine st1 6 rfl (by kernel_rfl) rfl ?_
     refine e' rfl ?_
     refine st1 7 rfl (by kernel_rfl) rfl ?_
     exact C0.s hC rfl (n' (V0.nil (by kernel_rfl) (lq (ih0 _ _ _ hh) rfl)))
    ·refine e' rfl ?_
     refine st2 1 3 rfl (by kernel_rfl) rfl rfl ?_ ?_
     ·refine e' rfl ?_
      refine st1 3 rfl (by kernel_rfl) rfl ?_
      refine gq [0] ((A1 hx17).ok) rfl (n' ?_)
      refine st1 4 rfl (by kernel_rfl) rfl ?_
      refine C0.be hC rfl (E0.rows_map [x17.1]).symm (n' ?_)
      refine st1 5 rfl (by kernel_rfl) rfl ?_
      refine C0.ap hC rfl (rs:=E0.rows (o2_Params++[x17.1])) (E0.app o2_Params [x17.1]) (E0.sz o2_Params) (E0.sz [x17.1]) (V1 (E0.len o2_Params) (E0.len [x17.1]) c31) (n' ?_)
      refine st1 6 rfl (by kernel_rfl) rfl ?_
      refine e' rfl ?_
      refine st1 7 rfl (by kernel_rfl) rfl ?_
      exact C0.s hC rfl (n' (V0.nil (by kernel_rfl) (lq (ih0 _ _ _ hh) rfl)))
     ·refine gq [0] ((A1 hx17).ok) rfl (n' ?_)
      refine st2 1 4 rfl (by kernel_rfl) rfl rfl ?_ ?_
      ·refine e' rfl ?_
       refine st1 4 rfl (by kernel_rfl) rfl ?_
       refine C0.be hC rfl (E0.rows_map [x17.1]).symm (n' ?_)
       refine st1 5 rfl (by kernel_rfl) rfl ?_
       refine C0.ap hC rfl (rs:=E0.rows (o2_Params++[x17.1])) (E0.app o2_Params [x17.1]) (E0.sz o2_Params) (E0.sz [x17.1]) (V1 (E0.len o2_Params) (E0.len [x17.1]) c31) (n' ?_)
       refine st1 6 rfl (by kernel_rfl) rfl ?_
       refine e' rfl ?_
       refine st1 7 rfl (by kernel_rfl) rfl ?_
       exact C0.s hC rfl (n' (V0.nil (by kernel_rfl) (lq (ih0 _ _ _ hh) rfl)))
      ·refine C0.be hC rfl (E0.rows_map [x17.1]).symm (n' ?_)
       refine st1 1 rfl (by kernel_rfl) rfl ?_
       refine e' rfl ?_
       refine st1 5 rfl (by kernel_rfl) rfl ?_
       refine C0.ap hC rfl (rs:=E0.rows (o2_Params++[x17.1])) (E0.app o2_Params [x17.1]) (E0.sz o2_Params) (E0.sz [x17.1]) (V1 (E0.len o2_Params) (E0.len [x17.1]) c31) (n' ?_)
       refine st1 6 rfl (by kernel_rfl) rfl ?_
       refine e' rfl ?_
       refine st1 7 rfl (by kernel_rfl) rfl ?_
       exact C0.s hC rfl (n' (V0.nil (by kernel_rfl) (lq (ih0 _ _ _ hh) rfl)))
   ·refine e' rfl ?_
    refine st2 0 3 rfl (by kernel_rfl) rfl rfl ?_ ?_
    ·refine e' rfl ?_
     refine st2 1 3 rfl (by kernel_rfl) rfl rfl ?_ ?_
     ·refine e' rfl ?_
      refine st1 3 rfl (by kernel_rfl) rfl ?_
      refine gq [0] ((A1 hx17).ok) rfl (n' ?_)
      refine st1 4 rfl (by kernel_rfl) rfl ?_
      refine C0.be hC rfl (E0.rows_map [x17.1]).symm (n' ?_)
      refine st1 5 rfl (by kernel_rfl) rfl ?_
      refine C0.ap hC rfl (rs:=E0.rows (o2_Params++[x17.1])) (E0.app o2_Params [x17.1]) (E0.sz o2_Params) (E0.sz [x17.1]) (V1 (E0.len o2_Params) (E0.len [x17.1]) c31) (n' ?_)
      refine st1 6 rfl (by kernel_rfl) rfl ?_
      refine e' rfl ?_
      refine st1 7 rfl (by kernel_rfl) rfl ?_
      exact C0.s hC rfl (n' (V0.nil (by kernel_rfl) (lq (ih0 _ _ _ hh) rfl)))
     ·refine gq [0] ((A1 hx17).ok) rfl (n' ?_)
      refine st2 1 4 rfl (by kernel_rfl) rfl rfl ?_ ?_
      ·refine e' rfl ?_
       refine st1 4 rfl (by kernel_rfl) rfl ?_
       refine C0.be hC rfl (E0.rows_map [x17.1]).symm (n' ?_)
       refine st1 5 rfl (by kernel_rfl) rfl ?_
       refine C0.ap hC rfl (rs:=E0.rows (o2_Params++[x17.1])) (E0.app o2_Params [x17.1]) (E0.sz o2_Params) (E0.sz [x17.1]) (V1 (E0.len o2_Params) (E0.len [x17.1]) c31) (n' ?_)
       refine st1 6 rfl (by kernel_rfl) rfl ?_
       refine e' rfl ?_
       refine st1 7 rfl (by kernel_rfl) rfl ?_
       exact C0.s hC rfl (n' (V0.nil (by kernel_rfl) (lq (ih0 _ _ _ hh) rfl)))
      ·refine C0.be hC rfl (E0.rows_map [x17.1]).symm (n' ?_)
       refine st1 1 rfl (by kernel_rfl) rfl ?_
       refine e' rfl ?_
       refine st1 5 rfl (by kernel_rfl) rfl ?_
       refine C0.ap hC rfl (rs:=E0.rows (o2_Params++[x17.1])) (E0.app o2_Params [x17.1]) (E0.sz o2_Params) (E0.sz [x17.1]) (V1 (E0.len o2_Params) (E0.len [x17.1]) c31) (n' ?_)
       refine st1 6 rfl (by kernel_rfl) rfl ?_
       refine e' rfl ?_
       refine st1 7 rfl (by kernel_rfl) rfl ?_
       exact C0.s hC rfl (n' (V0.nil (by kernel_rfl) (lq (ih0 _ _ _ hh) rfl)))
    ·refine gq [0] ((A1 hx17).ok) rfl (n' ?_)
     refine st2 0 4 rfl (by kernel_rfl) rfl rfl ?_ ?_
     ·refine e' rfl ?_
      refine st2 1 4 rfl (by kernel_rfl) rfl rfl ?_ ?_
      ·refine e' rfl ?_
       refine st1 4 rfl (by kernel_rfl) rfl ?_
       refine C0.be hC rfl (E0.rows_map [x17.1]).symm (n' ?_)
       refine st1 5 rfl (by kernel_rfl) rfl ?_
       refine C0.ap hC rfl (rs:=E0.rows (o2_Params++[x17.1])) (E0.app o2_Params [x17.1]) (E0.sz o2_Params) (E0.sz [x17.1]) (V1 (E0.len o2_Params) (E0.len [x17.1]) c31) (n' ?_)
       refine st1 6 rfl (by kernel_rfl) rfl ?_
       refine e' rfl ?_
       refine st1 7 rfl (by kernel_rfl) rfl ?_
       exact C0.s hC rfl (n' (V0.nil (by kernel_rfl) (lq (ih0 _ _ _ hh) rfl)))
      ·refine C0.be hC rfl (E0.rows_map [x17.1]).symm (n' ?_)
       refine st1 1 rfl (by kernel_rfl) rfl ?_
       refine e' rfl ?_
       refine st1 5 rfl (by kernel_rfl) rfl ?_
       refine C0.ap hC rfl (rs:=E0.rows (o2_Params++[x17.1])) (E0.app o2_Params [x17.1]) (E0.sz o2_Params) (E0.sz [x17.1]) (V1 (E0.len o2_Params) (E0.len [x17.1]) c31) (n' ?_)
       refine st1 6 rfl (by kernel_rfl) rfl ?_
       refine e' rfl ?_
       refine st1 7 rfl (by kernel_rfl) rfl ?_
       exact C0.s hC rfl (n' (V0.nil (by kernel_rfl) (lq (ih0 _ _ _ hh) rfl)))
     ·refine C0.be hC rfl (E0.rows_map [x17.1]).symm (n' ?_)
      refine st1 0 rfl (by kernel_rfl) rfl ?_
      refine e' rfl ?_
      refine st1 1 rfl (by kernel_rfl) rfl ?_
      refine e' rfl ?_
      refine st1 5 rfl (by kernel_rfl) rfl ?_
      refine C0.ap hC rfl (rs:=E0.rows (o2_Params++[x17.1])) (E0.app o2_Params [x17.1]) (E0.sz o2_Params) (E0.sz [x17.1]) (V1 (E0.len o2_Params) (E0.len [x17.1]) c31) (n' ?_)
      refine st1 6 rfl (by kernel_rfl) rfl ?_
      refine e' rfl ?_
      refine st1 7 rfl (by kernel_rfl) rfl ?_
      exact C0.s hC rfl (n' (V0.nil (by kernel_rfl) (lq (ih0 _ _ _ hh) rfl)))
  exact ex' (eq' (Eg hh) rfl)
theorem Hn {o0 x1 o2_Params res}(hh:D4 o0 x1 o2_Params=some res):Xg o0 x1 o2_Params res:=(Mm x1) _ _ _ hh
def O6 (x4:E0×A0)(x1:Str×A0):Option (Pn (E0×A0)):=
 D4 x4.2 x1 [x4.1]
theorem V2 {x4 x1 res}(hh:O6 x4 x1=some res):JMp C 58 1 Tryz.f103 [1,1,1,0,1,2,1] [(0,.ref 0 0),(2,.ref 1 0),(3,.ref 2 0)] [.row (A0.cells x4.2) 112,.row [.d (.int .i64 0),.d (.str []),.d (.int .i64 0),.d (.int .i64 0),.d (.int .i64 0),.d (.int .i64 0),.d (.str []),.full (estr.rows []),.full (L0.rows []),.d (.int .i64 0),.d (.int .i64 0),.d (.int .i64 0),.d (.str []),.full (B0.rows []),.full (E0.rows []),.full (E0.rows []),.full (J0.rows [])] 82,.row [.d (.int .i64 6),.d (.str x1.1),.d (.int .i64 0),.d (.int .i64 0),.d (.int .i64 0),.d (.int .i64 0),.d (.str []),.full (estr.rows []),.full (L0.rows []),.d (.int .i64 0),.d (.int .i64 0),.d (.int .i64 0),.d (.str []),.full (B0.rows []),.osl 3 (E0.rows [x4.1]),.osl 4 (E0.rows []),.full (J0.rows [])] 82,.tok 82 17,.tok 82 17] (P4 res (fun rr=>[.row (A0.cells rr.2) 112]) (fun rr=>.agg (E0.cells rr.1))) (H4 res O3 [.dead]):=by
 unfold O6 at hh
 exact bk' (fq (Hn hh) rfl)
def I8 (parserParser:A0):Option (Pn (E0×A0)):=
 I3 parserParser>>=fun x1=>match x1 with
 | .pn nn=>
 some (.pn nn)
 | .ok x1=>
 U0 [40] x1.2>>=fun x2=>match x2 with
 | .pn nn=>
 some (.pn nn)
 | .ok x2=>
 V5 x2>>=fun x3=>
 if x3=true then
  A4 4 x2>>=fun x4=>match x4 with
  | .pn nn=>
  some (.pn nn)
  | .ok x4=>
  if (decide ((0+1) * 257≤140737488355328))=true then
   O6 x4 x1
  else none
 else
  G5 x2 x1 []
theorem Ki {parserParser res}(hh:I8 parserParser=some res):I2 C 103 [.ref 0 0] [.row (A0.cells parserParser) 112] (P4 res (fun rr=>[.row (A0.cells rr.2) 112]) (fun rr=>.agg (E0.cells rr.1))) (H4 res O3 [.dead]):=by
 unfold I8 at hh
 refine I2.intro hC Tryz.func103 rfl rfl rfl (s' rfl rfl (C0.nf hC rfl (n' (p' 1 rfl ?_))))
 rcases bp' hh with ⟨nn,hx1,⟨⟩⟩ | ⟨x1,hx1,hh⟩
 ·exact gr [0] (C1 hx1) rfl (peW ⟨trivial,trivial⟩ rfl)
 refine gq [0] ((C1 hx1).ok) rfl (C0.bz hC rfl (C0.nf hC rfl (C0.s hC rfl (C0.tokC 2 14 82 17 rfl rfl rfl rfl rfl (C0.tokC 2 15 82 17 rfl rfl rfl rfl rfl (n' (p' 1 rfl ?_)))))))
 rcases bp' hh with ⟨nn,hx2,⟨⟩⟩ | ⟨x2,hx2,hh⟩
 ·exact gr [0] (F0 hx2) rfl (peW ⟨trivial,trivial⟩ rfl)
 obtain ⟨x3,hx3,hh⟩:=bs' hh
 refine gq [0] ((F0 hx2).ok) rfl (n' (S' (p' 1 rfl (gq [0] (Ze hx3) rfl (n' (ci' rfl hh (fun hh=>?_) (fun hh=>?_)))))))
 ·refine S' ?_
  rcases bp' hh with ⟨nn,hx4,⟨⟩⟩ | ⟨x4,hx4,hh⟩
  ·refine AEx.drawE hC ?_
   refine st2 0 2 rfl (by kernel_rfl) rfl rfl ?_ ?_
   ·refine e' rfl ?_
    refine st2 1 2 rfl (by kernel_rfl) rfl rfl ?_ ?_
    ·refine e' rfl ?_
     refine st1 2 rfl (by kernel_rfl) rfl ?_
     refine e' rfl ?_
     refine st1 3 rfl (by kernel_rfl) rfl ?_
     exact gr [0] (A1 hx4) rfl (peW ⟨trivial,trivial⟩ rfl)
    ·refine e' rfl ?_
     refine st2 1 3 rfl (by kernel_rfl) rfl rfl ?_ ?_
     ·refine e' rfl ?_
      refine st1 3 rfl (by kernel_rfl) rfl ?_
      exact gr [0] (A1 hx4) rfl (peW ⟨trivial,trivial⟩ rfl)
     ·exact gr [0] (A1 hx4) rfl (peW ⟨trivial,trivial⟩ rfl)
   ·refine e' rfl ?_
    refine st2 0 3 rfl (by kernel_rfl) rfl rfl ?_ ?_
    ·refine e' rfl ?_
     refine st2 1 3 rfl (by kernel_rfl) rfl rfl ?_ ?_
     ·refine e' rfl ?_
      refine st1 3 rfl (by kernel_rfl) rfl ?_
      exact gr [0] (A1 hx4) rfl (peW ⟨trivial,trivial⟩ rfl)
     ·exact gr [0] (A1 hx4) rfl (peW ⟨trivial,trivial⟩ rfl)
    ·exact gr [0] (A1 hx4) rfl (peW ⟨trivial,trivial⟩ rfl)
  obtain ⟨c30,hh⟩:=V4 hh
  refine AEx.drawE hC ?_
  refine st2 0 2 rfl (by kernel_rfl) rfl rfl ?_ ?_
  ·refine e' rfl ?_
   refine st2 1 2 rfl (by kernel_rfl) rfl rfl ?_ ?_
   ·refine e' rfl ?_
    refine st1 2 rfl (by kernel_rfl) rfl ?_
    refine e' rfl ?_
    refine st1 3 rfl (by kernel_rfl) rfl ?_
    refine gq [0] ((A1 hx4).ok) rfl (n' ?_)
    refine st1 4 rfl (by kernel_rfl) rfl ?_
    refine C0.be hC rfl (E0.rows_map [x4.1]).symm (n' ?_)
    refine st1 5 rfl (by kernel_rfl) rfl ?_
    refine C0.ap hC rfl (rs:=E0.rows [x4.1]) rfl (E0.sz []) (E0.sz [x4.1]) (V1 (E0.len []) (E0.len [x4.1]) c30) (n' ?_)
    refine st1 6 rfl (by kernel_rfl) rfl ?_
    refine e' rfl ?_
    refine st1 7 rfl (by kernel_rfl) rfl ?_
    exact C0.s hC rfl (n' (V0.nil (by kernel_rfl) (eq' (V2 hh) rfl)))
   ·refine e' rfl ?_
    refine st2 1 3 rfl (by kernel_rfl) rfl rfl ?_ ?_
    ·refine e' rfl ?_
     refine st1 3 rfl (by kernel_rfl) rfl ?_
     refine gq [0] ((A1 hx4).ok) rfl (n' ?_)
     refine st1 4 rfl (by kernel_rfl) rfl ?_
     refine C0.be hC rfl (E0.rows_map [x4.1]).symm (n' ?_)
     refine st1 5 rfl (by kernel_rfl) rfl ?_
     refine C0.ap hC rfl (rs:=E0.rows [x4.1]) rfl (E0.sz []) (E0.sz [x4.1]) (V1 (E0.len []) (E0.len [x4.1]) c30) (n' ?_)
     refine st1 6 rfl (by kernel_rfl) rfl ?_
     refine e' rfl ?_
     refine st1 7 rfl (by kernel_rfl) rfl ?_
     exact C0.s hC rfl (n' (V0.nil (by kernel_rfl) (eq' (V2 hh) rfl)))
    ·refine gq [0] ((A1 hx4).ok) rfl (n' ?_)
     refine st2 1 4 rfl (by kernel_rfl) rfl rfl ?_ ?_
     ·refine e' rfl ?_
      refine st1 4 rfl (by kernel_rfl) rfl ?_
      refine C0.be hC rfl (E0.rows_map [x4.1]).symm (n' ?_)
      refine st1 5 rfl (by kernel_rfl) rfl ?_
      refine C0.ap hC rfl (rs:=E0.rows [x4.1]) rfl (E0.sz []) (E0.sz [x4.1]) (V1 (E0.len []) (E0.len [x4.1]) c30) (n' ?_)
      refine st1 6 rfl (by kernel_rfl) rfl ?_
      refine e' rfl ?_
      refine st1 7 rfl (by kernel_rfl) rfl ?_
      exact C0.s hC rfl (n' (V0.nil (by kernel_rfl) (eq' (V2 hh) rfl)))
     ·refine C0.be hC rfl (E0.rows_map [x4.1]).symm (n' ?_)
      refine st1 1 rfl (by kernel_rfl) rfl ?_
      refine e' rfl ?_
      refine st1 5 rfl (by kernel_rfl) rfl ?_
      refine C0.ap hC rfl (rs:=E0.rows [x4.1]) rfl (E0.sz []) (E0.sz [x4.1]) (V1 (E0.len []) (E0.len [x4.1]) c30) (n' ?_)
      refine st1 6 rfl (by kernel_rfl) rfl ?_
      refine e' rfl ?_
      refine st1 7 rfl (by kernel_rfl) rfl ?_
      exact C0.s hC rfl (n' (V0.nil (by kernel_rfl) (eq' (V2 hh) rfl)))
  ·refine e' rfl ?_
   refine st2 0 3 rfl (by kernel_rfl) rfl rfl ?_ ?_
   ·refine e' rfl ?_
    refine st2 1 3 rfl (by kernel_rfl) rfl rfl ?_ ?_
    ·refine e' rfl ?_
     refine st1 3 rfl (by kernel_rfl) rfl ?_
     refine gq [0] ((A1 hx4).ok) rfl (n' ?_)
     refine st1 4 rfl (by kernel_rfl) rfl ?_
     refine C0.be hC rfl (E0.rows_map [x4.1]).symm (n' ?_)
     refine st1 5 rfl (by kernel_rfl) rfl ?_
     refine C0.ap hC rfl (rs:=E0.rows [x4.1]) rfl (E0.sz []) (E0.sz [x4.1]) (V1 (E0.len []) (E0.len [x4.1]) c30) (n' ?_)
     refine st1 6 rfl (by kernel_rfl) rfl ?_
     refine e' rfl ?_
     refine st1 7 rfl (by kernel_rfl) rfl ?_
     exact C0.s hC rfl (n' (V0.nil (by kernel_rfl) (eq' (V2 hh) rfl)))
    ·refine gq [0] ((A1 hx4).ok) rfl (n' ?_)
     refine st2 1 4 rfl (by kernel_rfl) rfl rfl ?_ ?_
     ·refine e' rfl ?_
      refine st1 4 rfl (by kernel_rfl) rfl ?_
      refine C0.be hC rfl (E0.rows_map [x4.1]).symm (n' ?_)
      refine st1 5 rfl (by kernel_rfl) rfl ?_
      refine C0.ap hC rfl (rs:=E0.rows [x4.1]) rfl (E0.sz []) (E0.sz [x4.1]) (V1 (E0.len []) (E0.len [x4.1]) c30) (n' ?_)
      refine st1 6 rfl (by kernel_rfl) rfl ?_
      refine e' rfl ?_
      refine st1 7 rfl (by kernel_rfl) rfl ?_
      exact C0.s hC rfl (n' (V0.nil (by kernel_rfl) (eq' (V2 hh) rfl)))
     ·refine C0.be hC rfl (E0.rows_map [x4.1]).symm (n' ?_)
      refine st1 1 rfl (by kernel_rfl) rfl ?_
      refine e' rfl ?_
      refine st1 5 rfl (by kernel_rfl) rfl ?_
      refine C0.ap hC rfl (rs:=E0.rows [x4.1]) rfl (E0.sz []) (E0.sz [x4.1]) (V1 (E0.len []) (E0.len [x4.1]) c30) (n' ?_)
      refine st1 6 rfl (by kernel_rfl) rfl ?_
      refine e' rfl ?_
      refine st1 7 rfl (by kernel_rfl) rfl ?_
      exact C0.s hC rfl (n' (V0.nil (by kernel_rfl) (eq' (V2 hh) rfl)))
   ·refine gq [0] ((A1 hx4).ok) rfl (n' ?_)
    refine st2 0 4 rfl (by kernel_rfl) rfl rfl ?_ ?_
    ·refine e' rfl ?_
     refine st2 1 4 rfl (by kernel_rfl) rfl rfl ?_ ?_
     ·refine e' rfl ?_
      refine st1 4 rfl (by kernel_rfl) rfl ?_
      refine C0.be hC rfl (E0.rows_map [x4.1]).symm (n' ?_)
      refine st1 5 rfl (by kernel_rfl) rfl ?_
      refine C0.ap hC rfl (rs:=E0.rows [x4.1]) rfl (E0.sz []) (E0.sz [x4.1]) (V1 (E0.len []) (E0.len [x4.1]) c30) (n' ?_)
      refine st1 6 rfl (by kernel_rfl) rfl ?_
      refine e' rfl ?_
      refine st1 7 rfl (by kernel_rfl) rfl ?_
      exact C0.s hC rfl (n' (V0.nil (by kernel_rfl) (eq' (V2 hh) rfl)))
     ·refine C0.be hC rfl (E0.rows_map [x4.1]).symm (n' ?_)
      refine st1 1 rfl (by kernel_rfl) rfl ?_
      refine e' rfl ?_
      refine st1 5 rfl (by kernel_rfl) rfl ?_
      refine C0.ap hC rfl (rs:=E0.rows [x4.1]) rfl (E0.sz []) (E0.sz [x4.1]) (V1 (E0.len []) (E0.len [x4.1]) c30) (n' ?_)
      refine st1 6 rfl (by kernel_rfl) rfl ?_
      refine e' rfl ?_
      refine st1 7 rfl (by kernel_rfl) rfl ?_
      exact C0.s hC rfl (n' (V0.nil (by kernel_rfl) (eq' (V2 hh) rfl)))
    ·refine C0.be hC rfl (E0.rows_map [x4.1]).symm (n' ?_)
     refine st1 0 rfl (by kernel_rfl) rfl ?_
     refine e' rfl ?_
     refine st1 1 rfl (by kernel_rfl) rfl ?_
     refine e' rfl ?_
     refine st1 5 rfl (by kernel_rfl) rfl ?_
     refine C0.ap hC rfl (rs:=E0.rows [x4.1]) rfl (E0.sz []) (E0.sz [x4.1]) (V1 (E0.len []) (E0.len [x4.1]) c30) (n' ?_)
     refine st1 6 rfl (by kernel_rfl) rfl ?_
     refine e' rfl ?_
     refine st1 7 rfl (by kernel_rfl) rfl ?_
     exact C0.s hC rfl (n' (V0.nil (by kernel_rfl) (eq' (V2 hh) rfl)))
 exact sk' (eq' (Eg hh) rfl)
def P6 (parserParser:A0):Option (Pn (E0×Bool×A0)):=
 S0 [116,121,112,101] parserParser>>=fun x1=>
 if x1.1=true then
  I3 x1.2>>=fun x2=>match x2 with
  | .pn nn=>
  some (.pn nn)
  | .ok x2=>
  U0 [61] x2.2>>=fun x3=>match x3 with
  | .pn nn=>
  some (.pn nn)
  | .ok x3=>
  U4 x3>>=fun x4=>match x4 with
  | .pn nn=>
  some (.pn nn)
  | .ok x4=>
  U0 [59] x4.2>>=fun x5=>match x5 with
  | .pn nn=>
  some (.pn nn)
  | .ok x5=>
  some (.ok ((E0.mk 0 x2.1 x4.1 0 (B0.mk 0 0 [] []) [] [] []),true,x5))
 else
  S0 [115,101,99,114,101,116] x1.2>>=fun x6=>
  if x6.1=true then
   A4 1 x6.2>>=fun x7=>match x7 with
   | .pn nn=>
   some (.pn nn)
   | .ok x7=>
   U0 [59] x7.2>>=fun x8=>match x8 with
   | .pn nn=>
   some (.pn nn)
   | .ok x8=>
   some (.ok (x7.1,true,x8))
  else
   S0 [112,117,98,108,105,99] x6.2>>=fun x9=>
   if x9.1=true then
    A4 2 x9.2>>=fun x10=>match x10 with
    | .pn nn=>
    some (.pn nn)
    | .ok x10=>
    U0 [59] x10.2>>=fun x11=>match x11 with
    | .pn nn=>
    some (.pn nn)
    | .ok x11=>
    some (.ok (x10.1,true,x11))
   else
    S0 [114,97,110,100,111,109] x9.2>>=fun x12=>
    if x12.1=true then
     A4 3 x12.2>>=fun x13=>match x13 with
     | .pn nn=>
     some (.pn nn)
     | .ok x13=>
     U0 [59] x13.2>>=fun x14=>match x14 with
     | .pn nn=>
     some (.pn nn)
     | .ok x14=>
     some (.ok (x13.1,true,x14))
    else
     S0 [118,97,114] x12.2>>=fun x15=>
     if x15.1=true then
      D6 x15.2>>=fun x16=>match x16 with
      | .pn nn=>
      some (.pn nn)
      | .ok x16=>
      some (.ok (x16.1,true,x16.2))
     else
      S0 [104,97,116,99,104] x15.2>>=fun x17=>
      if x17.1=true then
       A4 5 x17.2>>=fun x18=>match x18 with
       | .pn nn=>
       some (.pn nn)
       | .ok x18=>
       U0 [61] x18.2>>=fun x19=>match x19 with
       | .pn nn=>
       some (.pn nn)
       | .ok x19=>
       T1 x19>>=fun x20=>match x20 with
       | .pn nn=>
       some (.pn nn)
       | .ok x20=>
       U0 [59] x20.2>>=fun x21=>match x21 with
       | .pn nn=>
       some (.pn nn)
       | .ok x21=>
       some (.ok ((E0.mk x18.1.Kind x18.1.Name x18.1.TypeV x18.1.Init x20.1 x18.1.Params x18.1.Vars x18.1.Body),true,x21))
      else
       S0 [102,117,110,99] x17.2>>=fun x22=>
       if x22.1=true then
        I8 x22.2>>=fun x23=>match x23 with
        | .pn nn=>
        some (.pn nn)
        | .ok x23=>
        some (.ok (x23.1,true,x23.2))
       else
        some (.ok ((E0.mk 0 [] (L0.mk 0 0 0 0 [] [] []) 0 (B0.mk 0 0 [] []) [] [] []),false,x22.2))
theorem Fg {parserParser res}(hh:P6 parserParser=some res):I2 C 66 [.ref 0 0] [.row (A0.cells parserParser) 112] (P4 res (fun rr=>[.row (A0.cells rr.2.2) 112]) (fun rr=>.tup [.agg (E0.cells rr.1),.d (.bool rr.2.1)])) (H4 res O3 [.dead]):=by
 unfold P6 at hh
 obtain ⟨x1,hx1,hh⟩:=bs' hh
 refine I2.intro hC Tryz.func66 rfl rfl rfl (s' rfl rfl (C0.nf hC rfl (e' rfl (s' rfl rfl (C0.nf hC rfl (n' (S' (bk' (p' 1 rfl (gq [0] (O0 hx1) rfl (e' rfl (ci' rfl hh (fun hh=>?_) (fun hh=>?_)))))))))))))
 ·refine p' 1 rfl ?_
  rcases bp' hh with ⟨nn,hx2,⟨⟩⟩ | ⟨x2,hx2,hh⟩
  ·exact gr [0] (C1 hx2) rfl (peW ⟨trivial,trivial⟩ rfl)
  refine gq [0] ((C1 hx2).ok) rfl (e' rfl (p' 1 rfl ?_))
  rcases bp' hh with ⟨nn,hx3,⟨⟩⟩ | ⟨x3,hx3,hh⟩
  ·exact gr [0] (F0 hx3) rfl (peW ⟨trivial,trivial⟩ rfl)
  refine gq [0] ((F0 hx3).ok) rfl (n' (p' 2 rfl ?_))
  rcases bp' hh with ⟨nn,hx4,⟨⟩⟩ | ⟨x4,hx4,hh⟩
  ·exact gr [0] (R7 hx4) rfl (peW ⟨trivial,trivial⟩ rfl)
  refine gq [0] ((R7 hx4).ok) rfl (q' rfl (C0.s hC rfl (n' (P' 1 rfl ?_))))
  rcases bp' hh with ⟨nn,hx5,⟨⟩⟩ | ⟨x5,hx5,hh⟩
  ·exact gr [0] (F0 hx5) rfl (peW ⟨trivial,trivial⟩ rfl)
  cases hh
  exact gq [0] ((F0 hx5).ok) rfl (n' (p' 1 rfl (C0.s hC rfl (e' rfl (re' (rq rfl))))))
 obtain ⟨x6,hx6,hh⟩:=bs' hh
 refine p' 1 rfl (gq [0] (O0 hx6) rfl (e' rfl (ci' rfl hh (fun hh=>?_) (fun hh=>?_))))
 ·refine p' 1 rfl ?_
  rcases bp' hh with ⟨nn,hx7,⟨⟩⟩ | ⟨x7,hx7,hh⟩
  ·exact gr [0] (A1 hx7) rfl (peW ⟨trivial,trivial⟩ rfl)
  refine gq [0] ((A1 hx7).ok) rfl (C0.s hC rfl (n' (P' 1 rfl ?_)))
  rcases bp' hh with ⟨nn,hx8,⟨⟩⟩ | ⟨x8,hx8,hh⟩
  ·exact gr [0] (F0 hx8) rfl (peW ⟨trivial,trivial⟩ rfl)
  cases hh
  exact gq [0] ((F0 hx8).ok) rfl (n' (p' 1 rfl (C0.s hC rfl (e' rfl (re' (rq rfl))))))
 obtain ⟨x9,hx9,hh⟩:=bs' hh
 refine p' 1 rfl (gq [0] (O0 hx9) rfl (e' rfl (ci' rfl hh (fun hh=>?_) (fun hh=>?_))))
 ·refine p' 1 rfl ?_
  rcases bp' hh with ⟨nn,hx10,⟨⟩⟩ | ⟨x10,hx10,hh⟩
  ·exact gr [0] (A1 hx10) rfl (peW ⟨trivial,trivial⟩ rfl)
  refine gq [0] ((A1 hx10).ok) rfl (C0.s hC rfl (n' (P' 1 rfl ?_)))
  rcases bp' hh with ⟨nn,hx11,⟨⟩⟩ | ⟨x11,hx11,hh⟩
  ·exact gr [0] (F0 hx11) rfl (peW ⟨trivial,trivial⟩ rfl)
  cases hh
  exact gq [0] ((F0 hx11).ok) rfl (n' (p' 1 rfl (C0.s hC rfl (e' rfl (re' (rq rfl))))))
 obtain ⟨x12,hx12,hh⟩:=bs' hh
 refine p' 1 rfl (gq [0] (O0 hx12) rfl (e' rfl (ci' rfl hh (fun hh=>?_) (fun hh=>?_))))
 ·refine p' 1 rfl ?_
  rcases bp' hh with ⟨nn,hx13,⟨⟩⟩ | ⟨x13,hx13,hh⟩
  ·exact gr [0] (A1 hx13) rfl (peW ⟨trivial,trivial⟩ rfl)
  refine gq [0] ((A1 hx13).ok) rfl (C0.s hC rfl (n' (P' 1 rfl ?_)))
  rcases bp' hh with ⟨nn,hx14,⟨⟩⟩ | ⟨x14,hx14,hh⟩
  ·exact gr [0] (F0 hx14) rfl (peW ⟨trivial,trivial⟩ rfl)
  cases hh
  exact gq [0] ((F0 hx14).ok) rfl (n' (p' 1 rfl (C0.s hC rfl (e' rfl (re' (rq rfl))))))
 obtain ⟨x15,hx15,hh⟩:=bs' hh
 refine p' 1 rfl (gq [0] (O0 hx15) rfl (e' rfl (ci' rfl hh (fun hh=>?_) (fun hh=>?_))))
 ·refine P' 1 rfl ?_
  rcases bp' hh with ⟨nn,hx16,⟨⟩⟩ | ⟨x16,hx16,hh⟩
  ·exact gr [0] (E2 hx16) rfl (peW ⟨trivial,trivial⟩ rfl)
  cases hh
  exact gq [0] ((E2 hx16).ok) rfl (C0.s hC rfl (n' (p' 1 rfl (C0.s hC rfl (e' rfl (re' (rq rfl)))))))
 obtain ⟨x17,hx17,hh⟩:=bs' hh
 refine p' 1 rfl (gq [0] (O0 hx17) rfl (e' rfl (ci' rfl hh (fun hh=>?_) (fun hh=>?_))))
 ·refine p' 1 rfl ?_
  rcases bp' hh with ⟨nn,hx18,⟨⟩⟩ | ⟨x18,hx18,hh⟩
  ·exact gr [0] (A1 hx18) rfl (peW ⟨trivial,trivial⟩ rfl)
  refine gq [0] ((A1 hx18).ok) rfl (C0.s hC rfl (n' (p' 1 rfl ?_)))
  rcases bp' hh with ⟨nn,hx19,⟨⟩⟩ | ⟨x19,hx19,hh⟩
  ·exact gr [0] (F0 hx19) rfl (peW ⟨trivial,trivial⟩ rfl)
  refine gq [0] ((F0 hx19).ok) rfl (n' (p' 1 rfl ?_))
  rcases bp' hh with ⟨nn,hx20,⟨⟩⟩ | ⟨x20,hx20,hh⟩
  ·exact gr [0] (T0 hx20) rfl (peW ⟨trivial,trivial⟩ rfl)
  refine gq [0] ((T0 hx20).ok) rfl (q' rfl (C0.s hC rfl (n' (P' 1 rfl ?_))))
  rcases bp' hh with ⟨nn,hx21,⟨⟩⟩ | ⟨x21,hx21,hh⟩
  ·exact gr [0] (F0 hx21) rfl (peW ⟨trivial,trivial⟩ rfl)
  cases hh
  exact gq [0] ((F0 hx21).ok) rfl (n' (p' 1 rfl (C0.s hC rfl (e' rfl (re' (rq rfl))))))
 obtain ⟨x22,hx22,hh⟩:=bs' hh
 refine p' 1 rfl (gq [0] (O0 hx22) rfl (e' rfl (ci' rfl hh (fun hh=>?_) (fun hh=>?_))))
 ·refine P' 1 rfl ?_
  rcases bp' hh with ⟨nn,hx23,⟨⟩⟩ | ⟨x23,hx23,hh⟩
  ·exact gr [0] (Ki hx23) rfl (peW ⟨trivial,trivial⟩ rfl)
  cases hh
  exact gq [0] ((Ki hx23).ok) rfl (C0.s hC rfl (n' (p' 1 rfl (C0.s hC rfl (e' rfl (re' (rq rfl)))))))
 refine p' 1 rfl (C0.s hC rfl (e' rfl (re' ?_)))
 have hq:=oi' hh
 subst hq
 exact ⟨_,.tup [.agg [.d (.int .i64 0),.d (.str []),.d (.int .i64 0),.d (.int .i64 0),.d (.int .i64 0),.d (.int .i64 0),.d (.str []),.d (.sl (estr.rows [])),.d (.sl (L0.rows [])),.d (.int .i64 0),.d (.int .i64 0),.d (.int .i64 0),.d (.str []),.d (.sl (B0.rows [])),.d (.sl (E0.rows [])),.d (.sl (E0.rows [])),.d (.sl (J0.rows []))],.d (.bool false)],[.row (A0.cells x22.2) 112],rfl,(.tupL ⟨(.aggL ⟨.rfl,.rfl,.rfl,.rfl,.rfl,.rfl,.rfl,.full,.full,.rfl,.rfl,.rfl,.rfl,.full,.full,.full,.full,trivial⟩),.rfl,trivial⟩),⟨⟨rfl,.refl _,rfl⟩,trivial⟩,rfl,rfl,rpq rfl rfl⟩
def I4 (o0:A0)(o2_Decls:List E0):Option (Pn (E1×A0)):=
 P6 o0>>=fun x1=>match x1 with
 | .pn nn=>
 some (.pn nn)
 | .ok x1=>
 if (!x1.2.1)=true then
  U0 [98,101,103,105,110] x1.2.2>>=fun x2=>match x2 with
  | .pn nn=>
  some (.pn nn)
  | .ok x2=>
  X3 x2>>=fun x3=>match x3 with
  | .pn nn=>
  some (.pn nn)
  | .ok x3=>
  U0 [101,110,100] x3.2>>=fun x4=>match x4 with
  | .pn nn=>
  some (.pn nn)
  | .ok x4=>
  some (.ok ((E1.mk o2_Decls x3.1),x4))
 else
  if (decide ((o2_Decls.length+1) * 257≤140737488355328))=true then
   I4 x1.2.2 (o2_Decls++[x1.1])
  else none
 partial_fixpoint
abbrev Di (o0:A0)(o2_Decls:List E0)(res:Pn (E1×A0)):Prop:=LMp C 27 1 Tryz.f35 [1,1,0,4] [(0,.ref 0 0),(2,.ref 1 0),(3,.ref 2 0)] [.row (A0.cells o0) 112,.row [.full (E0.rows []),.full (J0.rows [])] 26,.row [.osl 3 (E0.rows o2_Decls),.full (J0.rows [])] 26,.tok 82 17] (P4 res (fun rr=>[.row (A0.cells rr.2) 112]) (fun rr=>.agg (E1.cells rr.1))) (H4 res O3 [.dead])
theorem Jn:(∀ o0 o2_Decls res,I4 o0 o2_Decls=some res→Di o0 o2_Decls res):=by
 refine I4.partial_correctness _ ?_
 ·intro g0 ih0 o0 o2_Decls res hh
  refine F1.unroll (bk' (p' 1 rfl ?_))
  rcases bp' hh with ⟨nn,hx1,⟨⟩⟩ | ⟨x1,hx1,hh⟩
  ·exact gr [0] (Fg hx1) rfl (peW ⟨trivial,trivial⟩ rfl)
  refine gq [0] ((Fg hx1).ok) rfl (o' 3 rfl (C0.nf hC rfl (C0.s hC rfl (e' rfl (S' (t' rfl (ci' rfl hh (fun hh=>?_) (fun hh=>?_))))))))
  ·refine ex' (p' 1 rfl ?_)
   rcases bp' hh with ⟨nn,hx2,⟨⟩⟩ | ⟨x2,hx2,hh⟩
   ·exact gr [0] (F0 hx2) rfl (peW ⟨trivial,trivial⟩ rfl)
   refine gq [0] ((F0 hx2).ok) rfl (n' (p' 1 rfl ?_))
   rcases bp' hh with ⟨nn,hx3,⟨⟩⟩ | ⟨x3,hx3,hh⟩
   ·exact gr [0] (W7 hx3) rfl (peW ⟨trivial,trivial⟩ rfl)
   refine gq [0] ((W7 hx3).ok) rfl (q' rfl (C0.s hC rfl (n' (p' 1 rfl ?_))))
   rcases bp' hh with ⟨nn,hx4,⟨⟩⟩ | ⟨x4,hx4,hh⟩
   ·exact gr [0] (F0 hx4) rfl (peW ⟨trivial,trivial⟩ rfl)
   refine gq [0] ((F0 hx4).ok) rfl (n' (p' 1 rfl (C0.s hC rfl (n' (re' ?_)))))
   have hq:=oi' hh
   subst hq
   exact ⟨_,.agg [.d (.sl (E0.rows o2_Decls)),.d (.sl (J0.rows x3.1))],[.row (A0.cells x4) 112],rfl,(.aggL ⟨.osl,.rfl,trivial⟩),⟨⟨rfl,.refl _,rfl⟩,trivial⟩,rfl,rfl,rpq rfl rfl⟩
  obtain ⟨c5,hh⟩:=V4 hh
  exact sk' (P' 3 rfl (C0.be hC rfl (E0.rows_map [x1.1]).symm (C0.ap hC rfl (rs:=E0.rows (o2_Decls++[x1.1])) (E0.app o2_Decls [x1.1]) (E0.sz o2_Decls) (E0.sz [x1.1]) (V1 (E0.len o2_Decls) (E0.len [x1.1]) c5) (q' rfl (C0.s hC rfl (n' (lq (ih0 _ _ _ hh) rfl)))))))
theorem Cp {o0 o2_Decls res}(hh:I4 o0 o2_Decls=some res):Di o0 o2_Decls res:=(Jn) _ _ _ hh
def E9 (parserParser:A0):Option (Pn (E1×A0)):=
 I4 parserParser []
theorem Xi {parserParser res}(hh:E9 parserParser=some res):I2 C 35 [.ref 0 0] [.row (A0.cells parserParser) 112] (P4 res (fun rr=>[.row (A0.cells rr.2) 112]) (fun rr=>.agg (E1.cells rr.1))) (H4 res O3 [.dead]):=by
 unfold E9 at hh
 exact I2.intro hC Tryz.func35 rfl rfl rfl (s' rfl rfl (C0.nf hC rfl (n' (s' rfl rfl (C0.nf hC rfl (C0.tokC 2 0 82 17 rfl rfl rfl rfl rfl (n' (S' (bk' (fq (Cp hh) rfl))))))))))
def Gg (parserParser:A0)(apiProgram:E1):Option (Pn (A0×E1)):=
 E9 parserParser>>=fun x1=>match x1 with
 | .pn nn=>
 some (.pn nn)
 | .ok x1=>
 some (.ok (x1.2,x1.1))
theorem Vp {parserParser apiProgram res}(hh:Gg parserParser apiProgram=some res):I2 C 34 [.ref 0 0,.ref 1 0] [.row (A0.cells parserParser) 112,.row [.full (E0.rows apiProgram.Decls),.full (J0.rows apiProgram.Body)] 26] (P4 res (fun rr=>[.row (A0.cells rr.1) 112,.row (E1.cells rr.2) 26]) (fun rr=>.tup [])) (H4 res O3 [.dead,.row [.full (E0.rows apiProgram.Decls),.full (J0.rows apiProgram.Body)] 26]):=by
 unfold Gg at hh
 refine I2.intro hC Tryz.func34 rfl rfl rfl (P' 1 rfl ?_)
 rcases bp' hh with ⟨nn,hx1,⟨⟩⟩ | ⟨x1,hx1,hh⟩
 ·exact gr [0] (Xi hx1) rfl (fun hi=>peW ⟨trivial,⟨rfl,.refl _,rfl⟩,trivial⟩ rfl hi)
 cases hh
 exact gq [0] ((Xi hx1).ok) rfl (C0.s hC rfl (n' (rn' rfl rfl rfl)))
def Hg (text:Str)(apiProgram:E1):Option (Int×Int×E1):=
 Xo text>>=fun x1=>
 if (x1.2.2 != 0)=true then
  some (x1.2.1,x1.2.2,apiProgram)
 else
  Gg (A0.mk x1.1 0 ((text).length:Int)) apiProgram>>=fun x2=>match x2 with
  | .pn nn=>
  some (nn,6,apiProgram)
  | .ok x2=>
  if (decide (x2.1.next < ((x2.1.tokens).length:Int)))=true then
   G7 x2.1>>=fun x3=>match x3 with
   | .pn nn=>
   some (nn,6,x2.2)
   | .ok x3=>
   some (0,0,x2.2)
  else
   some (0,0,x2.2)
theorem Cy {text apiProgram res}(hh:Hg text apiProgram=some res):W0 C 33 [.d (.str text),.clo 34 [.ref 0 0]] [.row [.full (E0.rows apiProgram.Decls),.full (J0.rows apiProgram.Body)] 26] (Ret [.row (E1.cells res.2.2) 26] (.tup [.d (.int .i64 res.1),.d (.int .i64 res.2.1)])):=by
 unfold Hg at hh
 obtain ⟨x1,hx1,hh⟩:=bs' hh
 refine W0.introD hC Tryz.func33 rfl rfl rfl (s' rfl rfl (C0.n hC rfl (C0.n hC rfl (n' (p' 1 rfl (cq (E14 hx1) rfl (o' 5 rfl (C0.s hC rfl (C0.s hC rfl (n' (S' (t' rfl (ci' rfl hh (fun hh=>?_) (fun hh=>?_))))))))))))))
 ·refine S' (AEx.drawL hC 3 [2] [] [[.row [.full (E0.rows apiProgram.Decls),.full (J0.rows apiProgram.Body)] 26,.row [.d (.int .i64 x1.2.1)] 3,.row [.d (.int .i64 x1.2.2)] 27],[.row [.full (E0.rows apiProgram.Decls),.full (J0.rows apiProgram.Body)] 26,.row [.d (.int .i64 x1.2.1)] 3,.row [.d (.int .i64 x1.2.2)] 27]] rfl rfl rfl rfl rfl rfl rfl rfl rfl rfl (AS.q hC rfl rfl rfl rfl ?_))
  refine AS.q hC rfl rfl rfl rfl (AS.s hC rfl rfl rfl rfl rfl rfl rfl (AS.nil (C0.s hC rfl (n' (re' ?_)))))
  have hq:=oi' hh
  subst hq
  exact ⟨_,_,[.row (E1.cells apiProgram) 26],rfl,.rfl,⟨⟨rfl,⟨.full,.full,trivial⟩,rfl⟩,trivial⟩,rfl,rfl,rfl,rfl⟩
 refine sk' (AEx.dfr hC K16 R17 rfl rfl rfl rfl rfl rfl fun _=>(p' 4 rfl (C0.n hC rfl (e' rfl (p' 2 rfl ?_)))))
 rcases bp' hh with ⟨nn,hx2,hh⟩ | ⟨x2,hx2,hh⟩
 ·have hq:=oi' hh; subst hq
  exact gr [3,0] (Vp hx2) rfl (fun hi=>dfk hi rfl rfl rfl (⟨_,_,[.row (E1.cells apiProgram) 26],rfl,.rfl,⟨⟨rfl,⟨.full,.full,trivial⟩,rfl⟩,trivial⟩,rfl,rfl,rfl,rfl⟩))
 refine gq [3,0] ((Vp hx2).ok) rfl (n' (S' (S' (AEx.draw hC 10 rfl rfl rfl (O' 8 rfl (AQ.qe hC rfl trivial (X0.lenA _) (E' rfl (n' (ci' rfl hh (fun hh=>?_) (fun hh=>?_))))))))))
 ·refine P' 1 rfl ?_
  rcases bp' hh with ⟨nn,hx3,hh⟩ | ⟨x3,hx3,hh⟩
  ·cases hh
   exact gr [3] (S6 hx3) rfl (fun hi=>dfk hi rfl rfl rfl (rq rfl))
  cases hh
  exact gq [3] ((S6 hx3).ok) rfl (n' (s' rfl rfl (C0.s hC rfl (C0.s hC rfl (n' (re' (rq rfl)))))))
 cases hh
 exact sk' (s' rfl rfl (C0.s hC rfl (C0.s hC rfl (n' (re' (rq rfl))))))
def Kf (k:Int):Option (Bool×Bool):=
 some ((bif (decide (k≥0)) then (decide (k≤6)) else false),(bif (k == 5) then true else (k == 6)))
theorem Dx {k res}(hh:Kf k=some res):W0 C 165 [.d (.int .i64 k)] [] (Ret [] (.tup [.d (.bool res.1),.d (.bool res.2)])):=by
 unfold Kf at hh
 cases hh
 exact W0.intro hC Tryz.func165 rfl rfl rfl (t' rfl (sg' 14 rfl (G' 4 rfl (a1' rfl (pa' rfl (G' 4 rfl (a1' rfl (po' rfl (G' 2 rfl (an' (n' (re' (rq rfl)))))))))))))
def N1 (ok:Bool)(syntaxReport:D0):Option D0:=
 some (D0.mk syntaxReport.nodes syntaxReport.depth (bif syntaxReport.badForm then true else (!ok)) syntaxReport.badName syntaxReport.badNumber)
theorem L1 {ok syntaxReport res}(hh:N1 ok syntaxReport=some res):W0 C 166 [.ref 0 0,.d (.bool ok)] [.row (D0.cells syntaxReport) 154] (Ret [.row (D0.cells res) 154] (.tup [])):=by
 unfold N1 at hh
 cases hh
 exact W0.intro hC Tryz.func166 rfl rfl rfl (AEx.regionG 11 rfl (G' 7 rfl (a1' rfl (po' rfl (G' 2 rfl (an' (C0.s hC rfl (n' (rn' rfl rfl rfl)))))))))
def L2 (s1:List Str)(s2:List Str)(v13:Int):Option Bool:=
 if (decide (v13 < ((s1).length:Int)))=true then
  idx s1 v13>>=fun x1=>
  idx s2 v13>>=fun x2=>
  if (!(x1 == x2))=true then
   some false
  else
   L2 s1 s2 (IntKind.i64.wrap (v13+1))
 else
  some true
 partial_fixpoint
abbrev Xe (s1:List Str)(s2:List Str)(v13:Int)(res:Bool):Prop:=LM C 26 0 Tryz.f15 [1,1,0,1,4] [(0,.d (.sl (estr.rows s1))),(1,.d (.sl (estr.rows s2))),(12,.d (.int .i64 ((s1).length:Int))),(13,.d (.int .i64 v13))] [] (Ret [] (.d (.bool res)))
theorem Zj (s1:List Str)(s2:List Str):(∀ v13 res,L2 s1 s2 v13=some res→Xe s1 s2 v13 res):=by
 refine L2.partial_correctness s1 s2 _ ?_
 ·intro g0 ih0 v13 res hh
  refine F1.unroll (t' rfl (S' (ci' rfl hh (fun hh=>?_) (fun hh=>?_))))
  ·obtain ⟨x1,hx1,hh⟩:=bs' hh
   obtain ⟨x2,hx2,hh⟩:=bs' hh
   refine sk' (S' (bk' (t' rfl (S' (AEx.draw hC 9 rfl rfl rfl (O' 2 rfl (AQ.i hC rfl (K3 hx1) (estr.idx hx1) rfl (O' 3 rfl (AQ.i hC rfl (K3 hx2) (estr.idx hx2) rfl (E' rfl (n' (ci' rfl hh (fun hh=>?_) (fun hh=>?_)))))))))))))
   ·cases hh
    exact t' rfl (re' (rq rfl))
   exact sk' (T' rfl (lq (ih0 _ _ hh) rfl))
  cases hh
  exact ex' (t' rfl (re' (rq rfl)))
theorem Lk {s1 s2 v13 res}(hh:L2 s1 s2 v13=some res):Xe s1 s2 v13 res:=(Zj s1 s2) _ _ hh
def Z3 (s1:List Str)(s2:List Str):Option Bool:=
 if (((s1).length:Int) != ((s2).length:Int))=true then
  some false
 else
  L2 s1 s2 0
theorem Tf {s1 s2 res}(hh:Z3 s1 s2=some res):W0 C 15 [.d (.sl (estr.rows s1)),.d (.sl (estr.rows s2))] [] (Ret [] (.d (.bool res))):=by
 unfold Z3 at hh
 refine W0.intro hC Tryz.func15 rfl rfl rfl (t' rfl (S' (p' 1 rfl (qe' rfl trivial (estr.lenA _) (q' rfl (qe' rfl trivial (estr.lenA _) (e' rfl (ci' rfl hh (fun hh=>?_) (fun hh=>?_)))))))))
 ·cases hh
  exact t' rfl (re' (rq rfl))
 exact sk' (S' (p' 1 rfl (qe' rfl trivial (estr.lenA _) (e' rfl (bk' (fq (Lk hh) rfl))))))
mutual
def J7 (a:L0)(b:L0):Option Bool:=
 (if (bif (bif (bif (bif (a.Kind == b.Kind) then (a.Low == b.Low) else false) then (a.High == b.High) else false) then (a.Size == b.Size) else false) then (a.Name == b.Name) else false)=true then Z3 a.Names b.Names else some default)>>=fun x1=>
 (if (bif (bif (bif (bif (bif (a.Kind == b.Kind) then (a.Low == b.Low) else false) then (a.High == b.High) else false) then (a.Size == b.Size) else false) then (a.Name == b.Name) else false) then x1 else false)=true then P3 a.Of b.Of else some default)>>=fun x2=>
 some (bif (bif (bif (bif (bif (bif (a.Kind == b.Kind) then (a.Low == b.Low) else false) then (a.High == b.High) else false) then (a.Size == b.Size) else false) then (a.Name == b.Name) else false) then x1 else false) then x2 else false)
 partial_fixpoint
def P3 (s1:List L0)(s2:List L0):Option Bool:=
 if (((s1).length:Int) != ((s2).length:Int))=true then
  some false
 else
  R2 s1 s2 0
 partial_fixpoint
def R2 (s1:List L0)(s2:List L0)(v17:Int):Option Bool:=
 if (decide (v17 < ((s1).length:Int)))=true then
  idx s1 v17>>=fun x1=>
  idx s2 v17>>=fun x2=>
  J7 x1 x2>>=fun x3=>
  if (!x3)=true then
   some false
  else
   R2 s1 s2 (IntKind.i64.wrap (v17+1))
 else
  some true
 partial_fixpoint
end
abbrev Dp (a:L0)(b:L0)(res:Bool):Prop:=W0 C 167 [.agg (L0.cells a),.agg (L0.cells b)] [] (Ret [] (.d (.bool res)))
abbrev Sc (s1:List L0)(s2:List L0)(res:Bool):Prop:=W0 C 205 [.d (.sl (L0.rows s1)),.d (.sl (L0.rows s2)),.clo 167 []] [] (Ret [] (.d (.bool res)))
abbrev Za (s1:List L0)(s2:List L0)(v17:Int)(res:Bool):Prop:=LM C 32 0 Tryz.f205 [1,1,0,1,4] [(1,.d (.sl (L0.rows s2))),(2,.clo 167 []),(15,.d (.sl (L0.rows s1))),(16,.d (.int .i64 ((s1).length:Int))),(17,.d (.int .i64 v17))] [] (Ret [] (.d (.bool res)))
theorem Jv:(∀ a b res,J7 a b=some res→Dp a b res)∧(∀ s1 s2 res,P3 s1 s2=some res→Sc s1 s2 res)∧(∀ s1 s2 v17 res,R2 s1 s2 v17=some res→Za s1 s2 v17 res):=by
 refine J7.mutual_partial_correctness _ _ _ ?_ ?_ ?_
 ·intro g1 ih1 a b res hh
  obtain ⟨x1,hx1,hh⟩:=bs' hh
  obtain ⟨x2,hx2,hh⟩:=bs' hh
  cases hh
  refine W0.intro hC Tryz.func167 rfl rfl rfl (s' rfl rfl (C0.n hC rfl (C0.n hC rfl (e' rfl (sg' 48 rfl (G' 7 rfl (a1' rfl (a0' rfl (a1' rfl (a2' rfl (pa' rfl (G' 2 rfl (a1' rfl ?_)))))))))))))
  refine a0' rfl (a1' rfl (a2' rfl (pa' rfl (G' 2 rfl (a1' rfl (a0' rfl (a1' rfl (a2' rfl (pa' rfl (G' 2 rfl (a1' rfl (a0' rfl (a1' rfl ?_)))))))))))))
  refine a2' rfl (pa' rfl (G' 2 rfl (a1' rfl (a0' rfl (a1' rfl (AG.c rfl rfl (fun hg=>⟨hg,hg,trivial⟩) (fun hw=>Tf (R9 hw hx1)) (pa' rfl (G' 2 rfl (a1' rfl (a0' rfl (a1' rfl (AG.c rfl rfl (fun hg=>⟨hg,hg,trivial⟩) (fun hw=>ih1 _ _ _ (R9 hw hx2)) (pa' rfl ?_)))))))))))))
  exact a0' rfl (an' (n' (re' (rq rfl))))
 ·intro g2 ih2 s1 s2 res hh
  refine W0.intro hC Tryz.func205 rfl rfl rfl (t' rfl (S' (p' 1 rfl (qe' rfl trivial (L0.lenA _) (q' rfl (qe' rfl trivial (L0.lenA _) (e' rfl (ci' rfl hh (fun hh=>?_) (fun hh=>?_)))))))))
  ·cases hh
   exact t' rfl (re' (rq rfl))
  exact sk' (S' (p' 1 rfl (qe' rfl trivial (L0.lenA _) (e' rfl (bk' (fq (ih2 _ _ _ _ hh) rfl))))))
 ·intro g0 g2 ih0 ih2 s1 s2 v17 res hh
  refine F1.unroll (t' rfl (S' (ci' rfl hh (fun hh=>?_) (fun hh=>?_))))
  ·obtain ⟨x1,hx1,hh⟩:=bs' hh
   obtain ⟨x2,hx2,hh⟩:=bs' hh
   obtain ⟨x3,hx3,hh⟩:=bs' hh
   refine sk' (S' (bk' (p' 1 rfl (i' rfl (K3 hx1) (L0.idx hx1) rfl (q' rfl (C0.nf hC rfl (q' rfl (C0.s hC rfl (n' (p' 2 rfl (i' rfl (K3 hx2) (L0.idx hx2) rfl (q' rfl (C0.nf hC rfl ?_)))))))))))))
   refine C0.s hC rfl (n' (p' 3 rfl (cq (ih0 _ _ _ hx3) rfl (e' rfl (ci' rfl hh (fun hh=>?_) (fun hh=>?_))))))
   ·cases hh
    exact t' rfl (re' (rq rfl))
   exact sk' (T' rfl (lq (ih2 _ _ _ _ hh) rfl))
  cases hh
  exact ex' (t' rfl (re' (rq rfl)))
theorem Xv {a b res}(hh:J7 a b=some res):Dp a b res:=(Jv).1 _ _ _ hh
def K7 (d:Int)(syntaxReport:D0):Option D0:=
 some (D0.mk syntaxReport.nodes (max syntaxReport.depth d) syntaxReport.badForm syntaxReport.badName syntaxReport.badNumber)
theorem Ig {d syntaxReport res}(hh:K7 d syntaxReport=some res):W0 C 173 [.ref 0 0,.d (.int .i64 d)] [.row (D0.cells syntaxReport) 154] (Ret [.row (D0.cells res) 154] (.tup [])):=by
 unfold K7 at hh
 cases hh
 exact W0.intro hC Tryz.func173 rfl rfl rfl (P' 9 rfl (C0.s hC rfl (n' (rn' rfl rfl rfl))))
def F4 (n:Int)(low:Int)(high:Int):Option Bool:=
 some (bif (decide (n≥low)) then (decide (n≤high)) else false)
theorem S4 {n low high res}(hh:F4 n low high=some res):W0 C 172 [.d (.int .i64 n),.d (.int .i64 low),.d (.int .i64 high)] [] (Ret [] (.d (.bool res))):=by
 unfold F4 at hh
 cases hh
 exact W0.intro hC Tryz.func172 rfl rfl rfl (t' rfl (sg' 9 rfl (G' 6 rfl (a2' rfl (pa' rfl (a0' rfl (an' (n' (re' (rq rfl))))))))))
def Z2 (ok:Bool)(syntaxReport:D0):Option D0:=
 some (D0.mk syntaxReport.nodes syntaxReport.depth syntaxReport.badForm syntaxReport.badName (bif syntaxReport.badNumber then true else (!ok)))
theorem U3 {ok syntaxReport res}(hh:Z2 ok syntaxReport=some res):W0 C 171 [.ref 0 0,.d (.bool ok)] [.row (D0.cells syntaxReport) 154] (Ret [.row (D0.cells res) 154] (.tup [])):=by
 unfold Z2 at hh
 cases hh
 exact W0.intro hC Tryz.func171 rfl rfl rfl (AEx.regionG 11 rfl (G' 7 rfl (a1' rfl (po' rfl (G' 2 rfl (an' (C0.s hC rfl (n' (rn' rfl rfl rfl)))))))))
def X7 (s:Str)(v6:Int):Option Bool:=
 if (decide (v6 < ((s).length:Int)))=true then
  idx s v6>>=fun x1=>
  Hb (x1.toNat:Int)>>=fun x2=>
  (if ((!x2)&&(!(v6 == 0)))=true then idx s v6 else some default)>>=fun x3=>
  (if ((!x2)&&(!(v6 == 0)))=true then Na (x3.toNat:Int) else some default)>>=fun x4=>
  if (bif (!x2) then (bif (v6 == 0) then true else (!x4)) else false)=true then
   some false
  else
   X7 s (IntKind.i64.wrap (v6+1))
 else
  some (!(s == []))
 partial_fixpoint
abbrev Wp (s:Str)(v6:Int)(res:Bool):Prop:=LM C 28 0 Tryz.f230 [1,0,1,4] [(0,.d (.str s)),(5,.d (.int .i64 ((s).length:Int))),(6,.d (.int .i64 v6))] [] (Ret [] (.d (.bool res)))
theorem Yv (s:Str):(∀ v6 res,X7 s v6=some res→Wp s v6 res):=by
 refine X7.partial_correctness s _ ?_
 ·intro g0 ih0 v6 res hh
  refine F1.unroll (t' rfl (S' (ci' rfl hh (fun hh=>?_) (fun hh=>?_))))
  ·obtain ⟨x1,hx1,hh⟩:=bs' hh
   obtain ⟨x2,hx2,hh⟩:=bs' hh
   obtain ⟨x3,hx3,hh⟩:=bs' hh
   obtain ⟨x4,hx4,hh⟩:=bs' hh
   refine sk' (S' (bk' (t' rfl (sg' 16 rfl (G' 2 rfl (AG.x hC rfl rfl (fun _=>trivial) (fun hw=>⟨K3 hx1,Ef hx1⟩) (AG.c rfl rfl (fun _=>trivial) (fun _=>Rj hx2) (G' 3 rfl (a1' rfl (a1' rfl (G' 2 rfl (AG.x hC rfl rfl (fun hg=>⟨hg,hg,trivial⟩) (fun hw=>⟨K3 (R9 hw hx3),Ef (R9 hw hx3)⟩) (AG.c rfl rfl (fun hg=>⟨hg,trivial⟩) (fun hw=>Ih (R9 hw hx4)) ?_)))))))))))))
   refine a1' rfl (pO' rfl (pa' rfl (an' (n' (ci' rfl hh (fun hh=>?_) (fun hh=>?_))))))
   ·cases hh
    exact t' rfl (re' (rq rfl))
   exact sk' (T' rfl (lq (ih0 _ _ hh) rfl))
  cases hh
  exact ex' (t' rfl (re' (rq rfl)))
theorem Gx {s v6 res}(hh:X7 s v6=some res):Wp s v6 res:=(Yv s) _ _ hh
def Yi (s:Str):Option Bool:=
 X7 s 0
theorem L10 {s res}(hh:Yi s=some res):W0 C 230 [.d (.str s)] [] (Ret [] (.d (.bool res))):=by
 unfold Yi at hh
 exact W0.intro hC Tryz.func230 rfl rfl rfl (t' rfl (S' (t' rfl (bk' (fq (Gx hh) rfl)))))
def Zi (s:Str):Option Bool:=
 (if (decide (((s).length:Int)≤12))=true then Yi s else some default)>>=fun x1=>
 (if (bif (decide (((s).length:Int)≤12)) then x1 else false)=true then Ee s else some default)>>=fun x2=>
 some (bif (bif (decide (((s).length:Int)≤12)) then x1 else false) then (!x2) else false)
theorem M10 {s res}(hh:Zi s=some res):W0 C 224 [.d (.str s)] [] (Ret [] (.d (.bool res))):=by
 unfold Zi at hh
 obtain ⟨x1,hx1,hh⟩:=bs' hh
 obtain ⟨x2,hx2,hh⟩:=bs' hh
 cases hh
 exact W0.intro hC Tryz.func224 rfl rfl rfl (t' rfl (sg' 13 rfl (G' 5 rfl (AG.c rfl rfl (fun hg=>⟨hg,trivial⟩) (fun hw=>L10 (R9 hw hx1)) (pa' rfl (G' 2 rfl (AG.c rfl rfl (fun hg=>⟨hg,trivial⟩) (fun hw=>Tp (R9 hw hx2)) (a1' rfl (pa' rfl (a0' rfl (an' (n' (re' (rq rfl))))))))))))))
def Ei (s:Str):Option Bool:=
 Zi s>>=fun x1=>
 some x1
theorem Az {s res}(hh:Ei s=some res):W0 C 206 [.d (.str s)] [] (Ret [] (.d (.bool res))):=by
 unfold Ei at hh
 obtain ⟨x1,hx1,hh⟩:=bs' hh
 cases hh
 exact W0.intro hC Tryz.func206 rfl rfl rfl (t' rfl (p' 1 rfl (cq (M10 hx1) rfl (e' rfl (re' (rq rfl))))))
def D5 (s:Str)(syntaxReport:D0):Option D0:=
 (if (!syntaxReport.badName)=true then Ei s else some default)>>=fun x1=>
 some (D0.mk syntaxReport.nodes syntaxReport.depth syntaxReport.badForm (bif syntaxReport.badName then true else (!x1)) syntaxReport.badNumber)
theorem F9 {s syntaxReport res}(hh:D5 s syntaxReport=some res):W0 C 169 [.ref 0 0,.d (.str s)] [.row (D0.cells syntaxReport) 154] (Ret [.row (D0.cells res) 154] (.tup [])):=by
 unfold D5 at hh
 obtain ⟨x1,hx1,hh⟩:=bs' hh
 cases hh
 exact W0.intro hC Tryz.func169 rfl rfl rfl (AEx.regionG 12 rfl (G' 7 rfl (AG.c rfl rfl (fun hg=>⟨hg,trivial⟩) (fun hw=>Az (R9 hw hx1)) (a1' rfl (po' rfl (G' 2 rfl (an' (C0.s hC rfl (n' (rn' rfl rfl rfl))))))))))
mutual
def H6 (t:L0)(depth:Int)(syntaxReport:D0):Option D0:=
 K7 depth (D0.mk (IntKind.i64.wrap (syntaxReport.nodes+1)) syntaxReport.depth syntaxReport.badForm syntaxReport.badName syntaxReport.badNumber)>>=fun x1=>
 N1 (bif (decide (t.Kind≥0)) then (decide (t.Kind≤4)) else false) x1>>=fun x2=>
 N1 (bif (t.Kind == 1) then true else (bif (t.Low == 0) then (t.High == 0) else false)) x2>>=fun x3=>
 N1 (bif (t.Kind == 2) then true else (t.Size == 0)) x3>>=fun x4=>
 N1 (bif (t.Kind == 4) then true else (t.Name == [])) x4>>=fun x5=>
 N1 (bif (t.Kind == 3) then true else (((t.Names).length:Int) == 0)) x5>>=fun x6=>
 if (t.Kind == 2)=true then
  N1 (((t.Of).length:Int) == 1) x6>>=fun x7=>
  F4 t.Size 1 32>>=fun x8=>
  Z2 x8 x7>>=fun x9=>
  S7 t depth x9
 else
  if (t.Kind == 3)=true then
   N1 (bif (decide (((t.Of).length:Int)≥1)) then (((t.Of).length:Int) == ((t.Names).length:Int)) else false) x6>>=fun x14=>
   Z2 (decide (((t.Of).length:Int)≤32)) x14>>=fun x15=>
   S7 t depth x15
  else
   N1 (((t.Of).length:Int) == 0) x6>>=fun x16=>
   S7 t depth x16
 partial_fixpoint
def S7 (t:L0)(depth:Int)(o0:D0):Option D0:=
 if (t.Kind == 1)=true then
  F4 t.Low (-1048576) 1048576>>=fun x10=>
  (if x10=true then F4 t.High t.Low 1048576 else some default)>>=fun x11=>
  Z2 (bif x10 then x11 else false) o0>>=fun x12=>
  T9 t depth x12
 else
  T9 t depth o0
 partial_fixpoint
def T9 (t:L0)(depth:Int)(o01:D0):Option D0:=
 if (t.Kind == 4)=true then
  D5 t.Name o01>>=fun x13=>
  U9 t depth x13
 else
  U9 t depth o01
 partial_fixpoint
def U9 (t:L0)(depth:Int)(o02:D0):Option D0:=
 V9 t depth o02 0
 partial_fixpoint
def V9 (t:L0)(depth:Int)(o03:D0)(v147:Int):Option D0:=
 if (decide (v147 < ((t.Names).length:Int)))=true then
  idx t.Names v147>>=fun x17=>
  D5 x17 o03>>=fun x18=>
  V9 t depth x18 (IntKind.i64.wrap (v147+1))
 else
  W9 t depth o03 0
 partial_fixpoint
def W9 (t:L0)(depth:Int)(o04:D0)(v158:Int):Option D0:=
 if (decide (v158 < ((t.Of).length:Int)))=true then
  idx t.Of v158>>=fun x19=>
  H6 x19 (IntKind.i64.wrap (depth+1)) o04>>=fun x20=>
  W9 t depth x20 (IntKind.i64.wrap (v158+1))
 else
  some o04
 partial_fixpoint
end
abbrev Tm (t:L0)(depth:Int)(syntaxReport:D0)(res:D0):Prop:=W0 C 168 [.ref 0 0,.agg (L0.cells t),.d (.int .i64 depth)] [.row (D0.cells syntaxReport) 154] (Ret [.row (D0.cells res) 154] (.tup []))
abbrev Us (t:L0)(depth:Int)(o0:D0)(res:D0):Prop:=JM C 168 1 Tryz.f168 [1,1,1,1,1,1,1,1,1,1] [(0,.ref 0 0),(2,.d (.int .i64 depth)),(4,.ref 1 0),(6,.d (.bool (t.Kind == 1))),(9,.d (.bool (t.Kind == 4)))] [.row (D0.cells o0) 154,.row (L0.cells t) 76] (Ret [.row (D0.cells res) 154] (.tup []))
abbrev Vs (t:L0)(depth:Int)(o01:D0)(res:D0):Prop:=JM C 168 1 Tryz.f168 [1,1,1,1,1,1,1,1,1,1,1] [(0,.ref 0 0),(2,.d (.int .i64 depth)),(4,.ref 1 0),(9,.d (.bool (t.Kind == 4)))] [.row (D0.cells o01) 154,.row (L0.cells t) 76] (Ret [.row (D0.cells res) 154] (.tup []))
abbrev Ws (t:L0)(depth:Int)(o02:D0)(res:D0):Prop:=JM C 168 1 Tryz.f168 [1,1,1,1,1,1,1,1,1,1,1,1] [(0,.ref 0 0),(2,.d (.int .i64 depth)),(4,.ref 1 0)] [.row (D0.cells o02) 154,.row (L0.cells t) 76] (Ret [.row (D0.cells res) 154] (.tup []))
abbrev Xs (t:L0)(depth:Int)(o03:D0)(v147:Int)(res:D0):Prop:=LM C 168 1 Tryz.f168 [1,1,1,1,1,1,1,1,1,1,1,1,0,1,4] [(0,.ref 0 0),(2,.d (.int .i64 depth)),(4,.ref 1 0),(145,.d (.sl (estr.rows t.Names))),(146,.d (.int .i64 ((t.Names).length:Int))),(147,.d (.int .i64 v147))] [.row (D0.cells o03) 154,.row (L0.cells t) 76] (Ret [.row (D0.cells res) 154] (.tup []))
abbrev Ys (t:L0)(depth:Int)(o04:D0)(v158:Int)(res:D0):Prop:=LM C 168 1 Tryz.f168 [1,1,1,1,1,1,1,1,1,1,1,1,1,1,4] [(0,.ref 0 0),(2,.d (.int .i64 depth)),(156,.d (.sl (L0.rows t.Of))),(157,.d (.int .i64 ((t.Of).length:Int))),(158,.d (.int .i64 v158))] [.row (D0.cells o04) 154] (Ret [.row (D0.cells res) 154] (.tup []))
theorem Ju:(∀ t depth syntaxReport res,H6 t depth syntaxReport=some res→Tm t depth syntaxReport res)∧(∀ t depth o0 res,S7 t depth o0=some res→Us t depth o0 res)∧(∀ t depth o01 res,T9 t depth o01=some res→Vs t depth o01 res)∧(∀ t depth o02 res,U9 t depth o02=some res→Ws t depth o02 res)∧(∀ t depth o03 v147 res,V9 t depth o03 v147=some res→Xs t depth o03 v147 res)∧(∀ t depth o04 v158 res,W9 t depth o04 v158=some res→Ys t depth o04 v158 res):=by
 refine H6.mutual_partial_correctness _ _ _ _ _ _ ?_ ?_ ?_ ?_ ?_ ?_
 ·intro g1 ih1 t depth syntaxReport res hh
  obtain ⟨x1,hx1,hh⟩:=bs' hh
  obtain ⟨x2,hx2,hh⟩:=bs' hh
  obtain ⟨x3,hx3,hh⟩:=bs' hh
  obtain ⟨x4,hx4,hh⟩:=bs' hh
  obtain ⟨x5,hx5,hh⟩:=bs' hh
  obtain ⟨x6,hx6,hh⟩:=bs' hh
  refine W0.intro hC Tryz.func168 rfl rfl rfl (s' rfl rfl (C0.n hC rfl (n' (p' 7 rfl (C0.s hC rfl (n' (p' 2 rfl (gq [0] (Ig hx1) rfl (n' (sg' 9 rfl (G' 6 rfl (a1' rfl (a1' rfl ?_)))))))))))))
  refine pa' rfl (an' (gq [0] (L1 hx2) rfl (n' (S' (AEx.draw hC 16 rfl rfl rfl (E' rfl (n' (sg' 12 rfl (G' 4 rfl (a1' rfl (a1' rfl (a1' rfl (a0' rfl ?_)))))))))))))
  refine a1' rfl (a1' rfl (pA' rfl (po' rfl (an' (gq [0] (L1 hx3) rfl (n' (sg' 7 rfl (G' 4 rfl (a1' rfl (a1' rfl (po' rfl (an' (gq [0] (L1 hx4) rfl ?_)))))))))))))
  refine n' (sg' 7 rfl (G' 4 rfl (a1' rfl (a1' rfl (po' rfl (an' (gq [0] (L1 hx5) rfl (n' (sg' 8 rfl (G' 4 rfl (a1' rfl (AG.qe hC rfl (fun hg=>⟨⟨hg,trivial⟩,trivial⟩) (estr.lenA _) (a1' rfl ?_)))))))))))))
  refine po' rfl (an' (gq [0] (L1 hx6) rfl (n' (S' (bk' (t' rfl (ci' rfl hh (fun hh=>?_) (fun hh=>?_))))))))
  ·obtain ⟨x7,hx7,hh⟩:=bs' hh
   obtain ⟨x8,hx8,hh⟩:=bs' hh
   obtain ⟨x9,hx9,hh⟩:=bs' hh
   exact p' 3 rfl (qe' rfl trivial (L0.lenA _) (q' rfl (gq [0] (L1 hx7) rfl (n' (P' 3 rfl (cq (S4 hx8) rfl (gq [0] (U3 hx9) rfl (n' (eq' (ih1 _ _ _ _ hh) rfl)))))))))
  refine t' rfl (ci' rfl hh (fun hh=>?_) (fun hh=>?_))
  ·obtain ⟨x14,hx14,hh⟩:=bs' hh
   obtain ⟨x15,hx15,hh⟩:=bs' hh
   refine sg' 14 rfl (G' 3 rfl (AG.qe hC rfl (fun hg=>⟨trivial,trivial⟩) (L0.lenA _) (G' 3 rfl (a1' rfl (AG.qe hC rfl (fun hg=>⟨⟨hg,trivial⟩,trivial⟩) (L0.lenA _) (a0' rfl (a1' rfl (AG.qe hC rfl (fun hg=>⟨⟨hg,trivial⟩,trivial⟩) (estr.lenA _) (a2' rfl (pa' rfl (an' (gq [0] (L1 hx14) rfl (n' ?_)))))))))))))
   exact P' 3 rfl (qe' rfl trivial (L0.lenA _) (q' rfl (gq [0] (U3 hx15) rfl (n' (eq' (ih1 _ _ _ _ hh) rfl)))))
  obtain ⟨x16,hx16,hh⟩:=bs' hh
  exact P' 3 rfl (qe' rfl trivial (L0.lenA _) (q' rfl (gq [0] (L1 hx16) rfl (n' (eq' (ih1 _ _ _ _ hh) rfl)))))
 ·intro g2 ih2 t depth o0 res hh
  refine S' (t' rfl (ci' rfl hh (fun hh=>?_) (fun hh=>?_)))
  ·obtain ⟨x10,hx10,hh⟩:=bs' hh
   obtain ⟨x11,hx11,hh⟩:=bs' hh
   obtain ⟨x12,hx12,hh⟩:=bs' hh
   exact AEx.regionG 11 rfl (G' 3 rfl (AG.c rfl rfl (fun _=>trivial) (fun _=>S4 hx10) (G' 2 rfl (a1' rfl (a0' rfl (a1' rfl (AG.c rfl rfl (fun hg=>⟨hg,hg,trivial⟩) (fun hw=>S4 (R9 hw hx11)) (pa' rfl (an' (gq [0] (U3 hx12) rfl (n' (eq' (ih2 _ _ _ _ hh) rfl))))))))))))
  exact sk' (eq' (ih2 _ _ _ _ hh) rfl)
 ·intro g3 ih3 t depth o01 res hh
  refine S' (t' rfl (ci' rfl hh (fun hh=>?_) (fun hh=>?_)))
  ·obtain ⟨x13,hx13,hh⟩:=bs' hh
   exact P' 3 rfl (gq [0] (F9 hx13) rfl (n' (eq' (ih3 _ _ _ _ hh) rfl)))
  exact sk' (eq' (ih3 _ _ _ _ hh) rfl)
 ·intro g4 ih4 t depth o02 res hh
  exact S' (p' 2 rfl (qe' rfl trivial (estr.lenA _) (e' rfl (bk' (fq (ih4 _ _ _ _ _ hh) rfl)))))
 ·intro g4 g5 ih4 ih5 t depth o03 v147 res hh
  refine F1.unroll (t' rfl (S' (ci' rfl hh (fun hh=>?_) (fun hh=>?_))))
  ·obtain ⟨x17,hx17,hh⟩:=bs' hh
   obtain ⟨x18,hx18,hh⟩:=bs' hh
   exact sk' (S' (bk' (s' rfl rfl (i' rfl (K3 hx17) (estr.idx hx17) rfl (e' rfl (P' 2 rfl (gq [0] (F9 hx18) rfl (n' (T' rfl (lq (ih4 _ _ _ _ _ hh) rfl))))))))))
  exact ex' (p' 2 rfl (qe' rfl trivial (L0.lenA _) (e' rfl (bk' (fq (ih5 _ _ _ _ _ hh) rfl)))))
 ·intro g0 g5 ih0 ih5 t depth o04 v158 res hh
  refine F1.unroll (t' rfl (S' (ci' rfl hh (fun hh=>?_) (fun hh=>?_))))
  ·obtain ⟨x19,hx19,hh⟩:=bs' hh
   obtain ⟨x20,hx20,hh⟩:=bs' hh
   exact sk' (S' (bk' (s' rfl rfl (i' rfl (K3 hx19) (L0.idx hx19) rfl (q' rfl (C0.nf hC rfl (C0.s hC rfl (n' (P' 4 rfl (gq [0] (ih0 _ _ _ _ hx20) rfl (n' (T' rfl (lq (ih5 _ _ _ _ _ hh) rfl)))))))))))))
  cases hh
  exact ex' (rn' rfl rfl rfl)
theorem Kv {t depth syntaxReport res}(hh:H6 t depth syntaxReport=some res):Tm t depth syntaxReport res:=(Ju).1 _ _ _ _ hh
mutual
def L7 (a:B0)(b:B0):Option Bool:=
 (if (bif (bif (a.Op == b.Op) then (a.NV == b.NV) else false) then (a.Name == b.Name) else false)=true then Q3 a.Kids b.Kids else some default)>>=fun x1=>
 some (bif (bif (bif (a.Op == b.Op) then (a.NV == b.NV) else false) then (a.Name == b.Name) else false) then x1 else false)
 partial_fixpoint
def Q3 (s1:List B0)(s2:List B0):Option Bool:=
 if (((s1).length:Int) != ((s2).length:Int))=true then
  some false
 else
  S2 s1 s2 0
 partial_fixpoint
def S2 (s1:List B0)(s2:List B0)(v17:Int):Option Bool:=
 if (decide (v17 < ((s1).length:Int)))=true then
  idx s1 v17>>=fun x1=>
  idx s2 v17>>=fun x2=>
  L7 x1 x2>>=fun x3=>
  if (!x3)=true then
   some false
  else
   S2 s1 s2 (IntKind.i64.wrap (v17+1))
 else
  some true
 partial_fixpoint
end
abbrev Ep (a:B0)(b:B0)(res:Bool):Prop:=W0 C 207 [.agg (B0.cells a),.agg (B0.cells b)] [] (Ret [] (.d (.bool res)))
abbrev Tc (s1:List B0)(s2:List B0)(res:Bool):Prop:=W0 C 225 [.d (.sl (B0.rows s1)),.d (.sl (B0.rows s2)),.clo 207 []] [] (Ret [] (.d (.bool res)))
abbrev Ab (s1:List B0)(s2:List B0)(v17:Int)(res:Bool):Prop:=LM C 32 0 Tryz.f225 [1,1,0,1,4] [(1,.d (.sl (B0.rows s2))),(2,.clo 207 []),(15,.d (.sl (B0.rows s1))),(16,.d (.int .i64 ((s1).length:Int))),(17,.d (.int .i64 v17))] [] (Ret [] (.d (.bool res)))
theorem Lv:(∀ a b res,L7 a b=some res→Ep a b res)∧(∀ s1 s2 res,Q3 s1 s2=some res→Tc s1 s2 res)∧(∀ s1 s2 v17 res,S2 s1 s2 v17=some res→Ab s1 s2 v17 res):=by
 refine L7.mutual_partial_correctness _ _ _ ?_ ?_ ?_
 ·intro g1 ih1 a b res hh
  obtain ⟨x1,hx1,hh⟩:=bs' hh
  cases hh
  refine W0.intro hC Tryz.func207 rfl rfl rfl (s' rfl rfl (C0.n hC rfl (C0.n hC rfl (e' rfl (sg' 27 rfl (G' 7 rfl (a1' rfl (a0' rfl (a1' rfl (a2' rfl (pa' rfl (G' 2 rfl (a1' rfl ?_)))))))))))))
  exact a0' rfl (a1' rfl (a2' rfl (pa' rfl (G' 2 rfl (a1' rfl (a0' rfl (a1' rfl (AG.c rfl rfl (fun hg=>⟨hg,hg,trivial⟩) (fun hw=>ih1 _ _ _ (R9 hw hx1)) (pa' rfl (a0' rfl (an' (n' (re' (rq rfl))))))))))))))
 ·intro g2 ih2 s1 s2 res hh
  refine W0.intro hC Tryz.func225 rfl rfl rfl (t' rfl (S' (p' 1 rfl (qe' rfl trivial (B0.lenA _) (q' rfl (qe' rfl trivial (B0.lenA _) (e' rfl (ci' rfl hh (fun hh=>?_) (fun hh=>?_)))))))))
  ·cases hh
   exact t' rfl (re' (rq rfl))
  exact sk' (S' (p' 1 rfl (qe' rfl trivial (B0.lenA _) (e' rfl (bk' (fq (ih2 _ _ _ _ hh) rfl))))))
 ·intro g0 g2 ih0 ih2 s1 s2 v17 res hh
  refine F1.unroll (t' rfl (S' (ci' rfl hh (fun hh=>?_) (fun hh=>?_))))
  ·obtain ⟨x1,hx1,hh⟩:=bs' hh
   obtain ⟨x2,hx2,hh⟩:=bs' hh
   obtain ⟨x3,hx3,hh⟩:=bs' hh
   refine sk' (S' (bk' (p' 1 rfl (i' rfl (K3 hx1) (B0.idx hx1) rfl (q' rfl (C0.nf hC rfl (q' rfl (C0.s hC rfl (n' (p' 2 rfl (i' rfl (K3 hx2) (B0.idx hx2) rfl (q' rfl (C0.nf hC rfl ?_)))))))))))))
   refine C0.s hC rfl (n' (p' 3 rfl (cq (ih0 _ _ _ hx3) rfl (e' rfl (ci' rfl hh (fun hh=>?_) (fun hh=>?_))))))
   ·cases hh
    exact t' rfl (re' (rq rfl))
   exact sk' (T' rfl (lq (ih2 _ _ _ _ hh) rfl))
  cases hh
  exact ex' (t' rfl (re' (rq rfl)))
theorem Zv {a b res}(hh:L7 a b=some res):Ep a b res:=(Lv).1 _ _ _ hh
def X9 (op:Int)(v9:Bool):Option Int:=
 if v9=true then
  some 1
 else
  if (op == 5)=true then
   some 2
  else
   if (op == 23)=true then
    some 3
   else
    if (bif (decide (op≥8)) then (decide (op≤22)) else false)=true then
     some 2
    else
     some (-1)
theorem Aj {op v9 res}(hh:X9 op v9=some res):JM C 23 0 Tryz.f208 [1,0,1,4,1,3,1] [(0,.d (.int .i64 op)),(3,.d (.int .i64 op)),(9,.d (.bool v9))] [] (Ret [] (.d (.int .i64 res))):=by
 unfold X9 at hh
 refine ci' rfl hh (fun hh=>?_) (fun hh=>?_)
 ·cases hh
  exact t' rfl (re' (rq rfl))
 refine t' rfl (ci' rfl hh (fun hh=>?_) (fun hh=>?_))
 ·cases hh
  exact t' rfl (re' (rq rfl))
 refine t' rfl (ci' rfl hh (fun hh=>?_) (fun hh=>?_))
 ·cases hh
  exact t' rfl (re' (rq rfl))
 refine sk' (S' (sg' 6 rfl (G' 4 rfl (a1' rfl (pa' rfl (an' (n' (ci' rfl hh (fun hh=>?_) (fun hh=>?_)))))))))
 ·cases hh
  exact t' rfl (re' (rq rfl))
 cases hh
 exact sk' (t' rfl (re' (rq rfl)))
def Y7 (op:Int)(v4:Bool):Option Int:=
 if v4=true then
  some 0
 else
  if (op == 4)=true then
   X9 op (op == 4)
  else
   if (op == 6)=true then
    X9 op (op == 6)
   else
    X9 op (op == 7)
theorem Lf {op v4 res}(hh:Y7 op v4=some res):JM C 23 0 Tryz.f208 [1,0,1,4,1] [(0,.d (.int .i64 op)),(3,.d (.int .i64 op)),(4,.d (.bool v4))] [] (Ret [] (.d (.int .i64 res))):=by
 unfold Y7 at hh
 refine ci' rfl hh (fun hh=>?_) (fun hh=>?_)
 ·cases hh
  exact t' rfl (re' (rq rfl))
 refine S' (t' rfl (ci' rfl hh (fun hh=>?_) (fun hh=>?_)))
 ·exact sk' (eq' (Aj hh) rfl)
 refine t' rfl (ci' rfl hh (fun hh=>?_) (fun hh=>?_))
 ·exact sk' (eq' (Aj hh) rfl)
 exact T' rfl (eq' (Aj hh) rfl)
def Bj (op:Int):Option Int:=
 if (op == 0)=true then
  Y7 op (op == 0)
 else
  if (op == 1)=true then
   Y7 op (op == 1)
  else
   if (op == 2)=true then
    Y7 op (op == 2)
   else
    Y7 op (op == 3)
theorem N10 {op res}(hh:Bj op=some res):W0 C 208 [.d (.int .i64 op)] [] (Ret [] (.d (.int .i64 res))):=by
 unfold Bj at hh
 refine W0.intro hC Tryz.func208 rfl rfl rfl (t' rfl (S' (t' rfl (bk' (S' (t' rfl (ci' rfl hh (fun hh=>?_) (fun hh=>?_))))))))
 ·exact sk' (eq' (Lf hh) rfl)
 refine t' rfl (ci' rfl hh (fun hh=>?_) (fun hh=>?_))
 ·exact sk' (eq' (Lf hh) rfl)
 refine t' rfl (ci' rfl hh (fun hh=>?_) (fun hh=>?_))
 ·exact sk' (eq' (Lf hh) rfl)
 exact T' rfl (eq' (Lf hh) rfl)
def Z7 (o0:B0):Option Bool:=
 if (bif (o0.Op == 4) then true else (o0.Op == 5))=true then
  if (((o0.Kids).length:Int) == 0)=true then
   some false
  else
   idx o0.Kids 0>>=fun x1=>
   Z7 x1
 else
  some (o0.Op == 3)
 partial_fixpoint
abbrev Xp (o0:B0)(res:Bool):Prop:=LM C 22 0 Tryz.f175 [1,0,4] [(1,.ref 0 0)] [.row (B0.cells o0) 80] (Ret [] (.d (.bool res)))
theorem Aw:(∀ o0 res,Z7 o0=some res→Xp o0 res):=by
 refine Z7.partial_correctness _ ?_
 ·intro g0 ih0 o0 res hh
  refine F1.unroll (S' (sg' 8 rfl (G' 5 rfl (a1' rfl (a1' rfl (po' rfl (an' (n' (ci' rfl hh (fun hh=>?_) (fun hh=>?_))))))))))
  ·refine sk' (bk' (S' (p' 2 rfl (qe' rfl trivial (B0.lenA _) (e' rfl (ci' rfl hh (fun hh=>?_) (fun hh=>?_)))))))
   ·cases hh
    exact t' rfl (re' (rq rfl))
   obtain ⟨x1,hx1,hh⟩:=bs' hh
   exact sk' (P' 2 rfl (i' rfl (K3 hx1) (B0.idx hx1) rfl (q' rfl (C0.s hC rfl (n' (lq (ih0 _ _ hh) rfl))))))
  cases hh
  exact ex' (t' rfl (re' (rq rfl)))
theorem Hx {o0 res}(hh:Z7 o0=some res):Xp o0 res:=(Aw) _ _ hh
def Jg (e:B0):Option Bool:=
 Z7 e
theorem Is {e res}(hh:Jg e=some res):W0 C 175 [.agg (B0.cells e)] [] (Ret [] (.d (.bool res))):=by
 unfold Jg at hh
 exact W0.intro hC Tryz.func175 rfl rfl rfl (s' rfl rfl (C0.n hC rfl (e' rfl (S' (bk' (fq (Hx hh) rfl))))))
mutual
def E5 (e:B0)(depth:Int)(syntaxReport:D0):Option D0:=
 K7 depth (D0.mk (IntKind.i64.wrap (syntaxReport.nodes+1)) syntaxReport.depth syntaxReport.badForm syntaxReport.badName syntaxReport.badNumber)>>=fun x1=>
 Bj e.Op>>=fun x2=>
 N1 (x2 == ((e.Kids).length:Int)) x1>>=fun x3=>
 N1 (bif (e.NV == 0) then true else (e.Op == 0)) x3>>=fun x4=>
 N1 (bif (e.Name == []) then true else (bif (e.Op == 3) then true else (e.Op == 4))) x4>>=fun x5=>
 if (bif (e.Op == 4) then true else (e.Op == 5))=true then
  Jg e>>=fun x6=>
  N1 x6 x5>>=fun x7=>
  G9 e depth x7
 else
  G9 e depth x5
 partial_fixpoint
def G9 (e:B0)(depth:Int)(o0:D0):Option D0:=
 if (bif (e.Op == 3) then true else (e.Op == 4))=true then
  D5 e.Name o0>>=fun x8=>
  H9 e depth x8
 else
  H9 e depth o0
 partial_fixpoint
def H9 (e:B0)(depth:Int)(o01:D0):Option D0:=
 if (e.Op == 0)=true then
  F4 e.NV 0 1048576>>=fun x9=>
  Z2 x9 o01>>=fun x10=>
  I9 e depth x10
 else
  I9 e depth o01
 partial_fixpoint
def I9 (e:B0)(depth:Int)(o02:D0):Option D0:=
 J9 e depth o02 0
 partial_fixpoint
def J9 (e:B0)(depth:Int)(o03:D0)(v82:Int):Option D0:=
 if (decide (v82 < ((e.Kids).length:Int)))=true then
  idx e.Kids v82>>=fun x11=>
  E5 x11 (IntKind.i64.wrap (depth+1)) o03>>=fun x12=>
  J9 e depth x12 (IntKind.i64.wrap (v82+1))
 else
  some o03
 partial_fixpoint
end
abbrev Bm (e:B0)(depth:Int)(syntaxReport:D0)(res:D0):Prop:=W0 C 176 [.ref 0 0,.agg (B0.cells e),.d (.int .i64 depth)] [.row (D0.cells syntaxReport) 154] (Ret [.row (D0.cells res) 154] (.tup []))
abbrev Rr (e:B0)(depth:Int)(o0:D0)(res:D0):Prop:=JM C 92 1 Tryz.f176 [1,1,1,1,1,1,1,1] [(0,.ref 0 0),(2,.d (.int .i64 depth)),(4,.ref 1 0),(6,.d (.bool (bif (e.Op == 3) then true else (e.Op == 4))))] [.row (D0.cells o0) 154,.row (B0.cells e) 80] (Ret [.row (D0.cells res) 154] (.tup []))
abbrev Sr (e:B0)(depth:Int)(o01:D0)(res:D0):Prop:=JM C 92 1 Tryz.f176 [1,1,1,1,1,1,1,1,1] [(0,.ref 0 0),(2,.d (.int .i64 depth)),(4,.ref 1 0)] [.row (D0.cells o01) 154,.row (B0.cells e) 80] (Ret [.row (D0.cells res) 154] (.tup []))
abbrev Tr (e:B0)(depth:Int)(o02:D0)(res:D0):Prop:=JM C 92 1 Tryz.f176 [1,1,1,1,1,1,1,1,1,1] [(0,.ref 0 0),(2,.d (.int .i64 depth)),(4,.ref 1 0)] [.row (D0.cells o02) 154,.row (B0.cells e) 80] (Ret [.row (D0.cells res) 154] (.tup []))
abbrev Ur (e:B0)(depth:Int)(o03:D0)(v82:Int)(res:D0):Prop:=LM C 92 1 Tryz.f176 [1,1,1,1,1,1,1,1,1,1,1,4] [(0,.ref 0 0),(2,.d (.int .i64 depth)),(80,.d (.sl (B0.rows e.Kids))),(81,.d (.int .i64 ((e.Kids).length:Int))),(82,.d (.int .i64 v82))] [.row (D0.cells o03) 154] (Ret [.row (D0.cells res) 154] (.tup []))
theorem Zs:(∀ e depth syntaxReport res,E5 e depth syntaxReport=some res→Bm e depth syntaxReport res)∧(∀ e depth o0 res,G9 e depth o0=some res→Rr e depth o0 res)∧(∀ e depth o01 res,H9 e depth o01=some res→Sr e depth o01 res)∧(∀ e depth o02 res,I9 e depth o02=some res→Tr e depth o02 res)∧(∀ e depth o03 v82 res,J9 e depth o03 v82=some res→Ur e depth o03 v82 res):=by
 refine E5.mutual_partial_correctness _ _ _ _ _ ?_ ?_ ?_ ?_ ?_
 ·intro g1 ih1 e depth syntaxReport res hh
  obtain ⟨x1,hx1,hh⟩:=bs' hh
  obtain ⟨x2,hx2,hh⟩:=bs' hh
  obtain ⟨x3,hx3,hh⟩:=bs' hh
  obtain ⟨x4,hx4,hh⟩:=bs' hh
  obtain ⟨x5,hx5,hh⟩:=bs' hh
  refine W0.intro hC Tryz.func176 rfl rfl rfl (s' rfl rfl (C0.n hC rfl (n' (p' 7 rfl (C0.s hC rfl (n' (p' 2 rfl (gq [0] (Ig hx1) rfl (n' (S' (AEx.draw hC 8 rfl rfl rfl (O' 3 rfl (Qc' (N10 hx2) rfl rfl ?_)))))))))))))
  refine O' 2 rfl (AQ.qe hC rfl trivial (B0.lenA _) (E' rfl (gq [0] (L1 hx3) rfl (n' (sg' 9 rfl (G' 6 rfl (a1' rfl (a1' rfl (po' rfl (an' (gq [0] (L1 hx4) rfl (n' (sg' 9 rfl ?_)))))))))))))
  refine G' 5 rfl (a1' rfl (a1' rfl (po' rfl (a0' rfl (an' (n' (sg' 7 rfl (G' 6 rfl (po' rfl (an' (gq [0] (L1 hx5) rfl (n' (S' ?_)))))))))))))
  refine sg' 8 rfl (G' 5 rfl (a1' rfl (a1' rfl (po' rfl (an' (n' (ci' rfl hh (fun hh=>?_) (fun hh=>?_))))))))
  ·obtain ⟨x6,hx6,hh⟩:=bs' hh
   obtain ⟨x7,hx7,hh⟩:=bs' hh
   exact P' 2 rfl (cq (Is hx6) rfl (gq [0] (L1 hx7) rfl (n' (eq' (ih1 _ _ _ _ hh) rfl))))
  exact sk' (eq' (ih1 _ _ _ _ hh) rfl)
 ·intro g2 ih2 e depth o0 res hh
  refine S' (t' rfl (ci' rfl hh (fun hh=>?_) (fun hh=>?_)))
  ·obtain ⟨x8,hx8,hh⟩:=bs' hh
   exact P' 3 rfl (gq [0] (F9 hx8) rfl (n' (eq' (ih2 _ _ _ _ hh) rfl)))
  exact sk' (eq' (ih2 _ _ _ _ hh) rfl)
 ·intro g3 ih3 e depth o01 res hh
  refine S' (t' rfl (ci' rfl hh (fun hh=>?_) (fun hh=>?_)))
  ·obtain ⟨x9,hx9,hh⟩:=bs' hh
   obtain ⟨x10,hx10,hh⟩:=bs' hh
   exact P' 3 rfl (cq (S4 hx9) rfl (gq [0] (U3 hx10) rfl (n' (eq' (ih3 _ _ _ _ hh) rfl))))
  exact sk' (eq' (ih3 _ _ _ _ hh) rfl)
 ·intro g4 ih4 e depth o02 res hh
  exact p' 2 rfl (qe' rfl trivial (B0.lenA _) (e' rfl (bk' (fq (ih4 _ _ _ _ _ hh) rfl))))
 ·intro g0 g4 ih0 ih4 e depth o03 v82 res hh
  refine F1.unroll (t' rfl (S' (ci' rfl hh (fun hh=>?_) (fun hh=>?_))))
  ·obtain ⟨x11,hx11,hh⟩:=bs' hh
   obtain ⟨x12,hx12,hh⟩:=bs' hh
   exact sk' (S' (bk' (s' rfl rfl (i' rfl (K3 hx11) (B0.idx hx11) rfl (q' rfl (C0.nf hC rfl (C0.s hC rfl (n' (P' 4 rfl (gq [0] (ih0 _ _ _ _ hx12) rfl (n' (T' rfl (lq (ih4 _ _ _ _ _ hh) rfl)))))))))))))
  cases hh
  exact ex' (rn' rfl rfl rfl)
theorem Cl {e depth syntaxReport res}(hh:E5 e depth syntaxReport=some res):Bm e depth syntaxReport res:=(Zs).1 _ _ _ _ hh
def F5 (e:B0)(used:Bool)(syntaxReport:D0):Option D0:=
 (if (!used)=true then L7 e (B0.mk 0 0 [] []) else some default)>>=fun x1=>
 if (bif (!used) then x1 else false)=true then
  some syntaxReport
 else
  N1 used syntaxReport>>=fun x2=>
  E5 e 1 x2>>=fun x3=>
  some x3
theorem Wd {e used syntaxReport res}(hh:F5 e used syntaxReport=some res):W0 C 170 [.ref 0 0,.agg (B0.cells e),.d (.bool used)] [.row (D0.cells syntaxReport) 154] (Ret [.row (D0.cells res) 154] (.tup [])):=by
 unfold F5 at hh
 obtain ⟨x1,hx1,hh⟩:=bs' hh
 refine W0.intro hC Tryz.func170 rfl rfl rfl (s' rfl rfl (C0.n hC rfl (n' (S' (sg' 7 rfl (G' 5 rfl (AG.c rfl rfl (fun hg=>⟨hg,hg,trivial⟩) (fun hw=>Zv (R9 hw hx1)) (pa' rfl (an' (n' (ci' rfl hh (fun hh=>?_) (fun hh=>?_))))))))))))
 ·cases hh
  exact re' (rq rfl)
 obtain ⟨x2,hx2,hh⟩:=bs' hh
 obtain ⟨x3,hx3,hh⟩:=bs' hh
 cases hh
 exact sk' (p' 2 rfl (gq [0] (L1 hx2) rfl (n' (P' 2 rfl (gq [0] (Cl hx3) rfl (n' (rn' rfl rfl rfl)))))))
def Ke (v:Int):Option (B2×Bool):=
 if (v == 0)=true then
  some ((B2.mk true true false false false false false false false),true)
 else
  if (v == 1)=true then
   some ((B2.mk true false true true false false false false false),true)
  else
   if (v == 2)=true then
    some ((B2.mk true false true false false false false false false),true)
   else
    if (v == 3)=true then
     some ((B2.mk false true false false false false false false false),true)
    else
     if (v == 4)=true then
      some ((B2.mk false false false false true false false false false),true)
     else
      if (v == 5)=true then
       some ((B2.mk false true false false false false false true true),true)
      else
       if (v == 6)=true then
        some ((B2.mk false true false false true false false true false),true)
       else
        if (v == 7)=true then
         some ((B2.mk false false true false false true false true false),true)
        else
         if (v == 8)=true then
          some ((B2.mk false false false false false false true false false),true)
         else
          some ((B2.mk false false false false false false false false false),false)
theorem Bw {v res}(hh:Ke v=some res):W0 C 174 [.d (.int .i64 v)] [] (Ret [] (.tup [.agg (B2.cells res.1),.d (.bool res.2)])):=by
 unfold Ke at hh
 refine W0.intro hC Tryz.func174 rfl rfl rfl (s' rfl rfl (C0.n hC rfl (e' rfl (S' (t' rfl (bk' (t' rfl (ci' rfl hh (fun hh=>?_) (fun hh=>?_)))))))))
 ·cases hh
  exact p' 1 rfl (C0.s hC rfl (e' rfl (re' (rq rfl))))
 refine t' rfl (ci' rfl hh (fun hh=>?_) (fun hh=>?_))
 ·cases hh
  exact p' 1 rfl (C0.s hC rfl (e' rfl (re' (rq rfl))))
 refine t' rfl (ci' rfl hh (fun hh=>?_) (fun hh=>?_))
 ·cases hh
  exact p' 1 rfl (C0.s hC rfl (e' rfl (re' (rq rfl))))
 refine t' rfl (ci' rfl hh (fun hh=>?_) (fun hh=>?_))
 ·cases hh
  exact p' 1 rfl (C0.s hC rfl (e' rfl (re' (rq rfl))))
 refine t' rfl (ci' rfl hh (fun hh=>?_) (fun hh=>?_))
 ·cases hh
  exact p' 1 rfl (C0.s hC rfl (e' rfl (re' (rq rfl))))
 refine t' rfl (ci' rfl hh (fun hh=>?_) (fun hh=>?_))
 ·cases hh
  exact p' 1 rfl (C0.s hC rfl (e' rfl (re' (rq rfl))))
 refine t' rfl (ci' rfl hh (fun hh=>?_) (fun hh=>?_))
 ·cases hh
  exact p' 1 rfl (C0.s hC rfl (e' rfl (re' (rq rfl))))
 refine t' rfl (ci' rfl hh (fun hh=>?_) (fun hh=>?_))
 ·cases hh
  exact p' 1 rfl (C0.s hC rfl (e' rfl (re' (rq rfl))))
 refine t' rfl (ci' rfl hh (fun hh=>?_) (fun hh=>?_))
 ·cases hh
  exact p' 1 rfl (C0.s hC rfl (e' rfl (re' (rq rfl))))
 cases hh
 exact sk' (p' 1 rfl (C0.s hC rfl (e' rfl (re' (rq rfl)))))
def J4 (s:J0)(o0:D0)(last:Int)(v58:Int):Option D0:=
 if (decide (v58 < ((s.Numbers).length:Int)))=true then
  idx s.Numbers v58>>=fun x10=>
  F4 x10 0 1048576>>=fun x11=>
  Z2 (bif x11 then (decide (x10 > last)) else false) o0>>=fun x12=>
  J4 s x12 x10 (IntKind.i64.wrap (v58+1))
 else
  some o0
 partial_fixpoint
abbrev Fi (s:J0)(o0:D0)(last:Int)(v58:Int)(res:D0):Prop:=LM C 73 1 Tryz.f177 [1,1,4,1,3,1,3,1,3,1,2,1,1,1,4] [(0,.ref 0 0),(5,.d (.int .i64 last)),(56,.d (.sl (ei64.rows s.Numbers))),(57,.d (.int .i64 ((s.Numbers).length:Int))),(58,.d (.int .i64 v58))] [.row (D0.cells o0) 154] (Ret [.row (D0.cells res) 154] (.tup []))
theorem Kn (s:J0):(∀ o0 last v58 res,J4 s o0 last v58=some res→Fi s o0 last v58 res):=by
 refine J4.partial_correctness s _ ?_
 ·intro g0 ih0 o0 last v58 res hh
  refine F1.unroll (t' rfl (S' (ci' rfl hh (fun hh=>?_) (fun hh=>?_))))
  ·obtain ⟨x10,hx10,hh⟩:=bs' hh
   obtain ⟨x11,hx11,hh⟩:=bs' hh
   obtain ⟨x12,hx12,hh⟩:=bs' hh
   refine sk' (S' (bk' (s' rfl rfl (i' rfl (K3 hx10) (ei64.idx hx10) rfl (e' rfl (sg' 8 rfl (G' 2 rfl (AG.c rfl rfl (fun _=>trivial) (fun _=>S4 hx11) (G' 3 rfl (a2' rfl (pa' rfl (an' (gq [0] (U3 hx12) rfl ?_)))))))))))))
   exact n' (T' rfl (T' rfl (lq (ih0 _ _ _ _ hh) rfl)))
  cases hh
  exact ex' (rn' rfl rfl rfl)
theorem Fp {s o0 last v58 res}(hh:J4 s o0 last v58=some res):Fi s o0 last v58 res:=(Kn s) _ _ _ _ hh
def K9 (s:J0)(syntaxReport:D0):Option D0:=
 if (s.Verb == 4)=true then
  F4 s.NV 0 1048576>>=fun x1=>
  Z2 x1 syntaxReport>>=fun x2=>
  some x2
 else
  if (s.Verb == 6)=true then
   F4 s.NV 0 4096>>=fun x3=>
   Z2 x3 syntaxReport>>=fun x4=>
   some x4
  else
   if (s.Verb == 7)=true then
    F4 s.Low (-1048576) 1048576>>=fun x5=>
    (if x5=true then F4 s.High s.Low 1048576 else some default)>>=fun x6=>
    Z2 (bif (bif x5 then x6 else false) then (decide ((IntKind.i64.wrap (s.High - s.Low)) < 4096)) else false) syntaxReport>>=fun x7=>
    some x7
   else
    if (s.Verb == 8)=true then
     F4 ((s.Numbers).length:Int) 1 32>>=fun x8=>
     Z2 x8 syntaxReport>>=fun x9=>
     J4 s x9 (-1) 0
    else
     some syntaxReport
theorem Xq {s syntaxReport res}(hh:K9 s syntaxReport=some res):W0 C 177 [.ref 0 0,.agg (J0.cells s)] [.row (D0.cells syntaxReport) 154] (Ret [.row (D0.cells res) 154] (.tup [])):=by
 unfold K9 at hh
 refine W0.intro hC Tryz.func177 rfl rfl rfl (s' rfl rfl (C0.n hC rfl (n' (t' rfl (bk' (t' rfl (ci' rfl hh (fun hh=>?_) (fun hh=>?_))))))))
 ·obtain ⟨x1,hx1,hh⟩:=bs' hh
  obtain ⟨x2,hx2,hh⟩:=bs' hh
  cases hh
  exact P' 3 rfl (cq (S4 hx1) rfl (gq [0] (U3 hx2) rfl (n' (rn' rfl rfl rfl))))
 refine t' rfl (ci' rfl hh (fun hh=>?_) (fun hh=>?_))
 ·obtain ⟨x3,hx3,hh⟩:=bs' hh
  obtain ⟨x4,hx4,hh⟩:=bs' hh
  cases hh
  exact P' 3 rfl (cq (S4 hx3) rfl (gq [0] (U3 hx4) rfl (n' (rn' rfl rfl rfl))))
 refine t' rfl (ci' rfl hh (fun hh=>?_) (fun hh=>?_))
 ·obtain ⟨x5,hx5,hh⟩:=bs' hh
  obtain ⟨x6,hx6,hh⟩:=bs' hh
  obtain ⟨x7,hx7,hh⟩:=bs' hh
  cases hh
  refine sg' 11 rfl (G' 2 rfl (AG.c rfl rfl (fun _=>trivial) (fun _=>S4 hx5) (G' 2 rfl (a1' rfl (a0' rfl (a1' rfl (AG.c rfl rfl (fun hg=>⟨hg,hg,trivial⟩) (fun hw=>S4 (R9 hw hx6)) (pa' rfl (a0' rfl (an' (n' (AEx.regionG 10 rfl (G' 4 rfl ?_)))))))))))))
  exact a1' rfl (a0' rfl (a1' rfl (a2' rfl (a1' rfl (pa' rfl (an' (gq [0] (U3 hx7) rfl (n' (rn' rfl rfl rfl)))))))))
 refine t' rfl (ci' rfl hh (fun hh=>?_) (fun hh=>?_))
 ·obtain ⟨x8,hx8,hh⟩:=bs' hh
  obtain ⟨x9,hx9,hh⟩:=bs' hh
  exact p' 3 rfl (qe' rfl trivial (ei64.lenA _) (cq (S4 hx8) rfl (gq [0] (U3 hx9) rfl (n' (t' rfl (p' 2 rfl (qe' rfl trivial (ei64.lenA _) (e' rfl (bk' (fq (Fp hh) rfl))))))))))
 cases hh
 exact sk' (rn' rfl rfl rfl)
mutual
def R4 (l:List J0)(nesting:Int)(syntaxReport:D0):Option D0:=
 J8 l nesting syntaxReport 0
 partial_fixpoint
def J8 (l:List J0)(nesting:Int)(o03:D0)(v14:Int):Option D0:=
 if (decide (v14 < ((l).length:Int)))=true then
  idx l v14>>=fun x1=>
  K7 nesting (D0.mk (IntKind.i64.wrap (o03.nodes+1)) o03.depth o03.badForm o03.badName o03.badNumber)>>=fun x2=>
  Ke x1.Verb>>=fun x3=>
  N1 x3.2 x2>>=fun x4=>
  F5 x1.Place x3.1.place x4>>=fun x5=>
  if x3.1.place=true then
   Jg x1.Place>>=fun x6=>
   N1 x6 x5>>=fun x7=>
   K8 l nesting x7 x1 x3 v14
  else
   K8 l nesting x5 x1 x3 v14
 else
  some o03
 partial_fixpoint
def K8 (l:List J0)(nesting:Int)(o0:D0)(x1:J0)(x3:B2×Bool)(v141:Int):Option D0:=
 F5 x1.Value x3.1.value o0>>=fun x8=>
 N1 (bif x3.1.name then true else (x1.Name == [])) x8>>=fun x9=>
 if x3.1.name=true then
  D5 x1.Name x9>>=fun x10=>
  L8 l nesting x10 x1 x3 v141
 else
  L8 l nesting x9 x1 x3 v141
 partial_fixpoint
def L8 (l:List J0)(nesting:Int)(o01:D0)(x1:J0)(x3:B2×Bool)(v142:Int):Option D0:=
 N1 (bif x3.1.args then true else (((x1.Args).length:Int) == 0)) o01>>=fun x11=>
 M8 l nesting x11 x1 x3 v142 0
 partial_fixpoint
def M8 (l:List J0)(nesting:Int)(o02:D0)(x1:J0)(x3:B2×Bool)(v143:Int)(v84:Int):Option D0:=
 if (decide (v84 < ((x1.Args).length:Int)))=true then
  idx x1.Args v84>>=fun x12=>
  E5 x12 1 o02>>=fun x13=>
  M8 l nesting x13 x1 x3 v143 (IntKind.i64.wrap (v84+1))
 else
  N1 (bif x3.1.n then true else (x1.NV == 0)) o02>>=fun x14=>
  N1 (bif x3.1.bounds then true else (bif (x1.Low == 0) then (x1.High == 0) else false)) x14>>=fun x15=>
  N1 (bif x3.1.numbers then true else (((x1.Numbers).length:Int) == 0)) x15>>=fun x16=>
  N1 (bif x3.1.thenV then true else (((x1.Then).length:Int) == 0)) x16>>=fun x17=>
  N1 (bif x3.1.other then true else (((x1.Else).length:Int) == 0)) x17>>=fun x18=>
  K9 x1 x18>>=fun x19=>
  R4 x1.Then (IntKind.i64.wrap (nesting+1)) x19>>=fun x20=>
  R4 x1.Else (IntKind.i64.wrap (nesting+1)) x20>>=fun x21=>
  J8 l nesting x21 (IntKind.i64.wrap (v143+1))
 partial_fixpoint
end
abbrev Dl (l:List J0)(nesting:Int)(syntaxReport:D0)(res:D0):Prop:=W0 C 106 [.ref 0 0,.d (.sl (J0.rows l)),.d (.int .i64 nesting)] [.row (D0.cells syntaxReport) 154] (Ret [.row (D0.cells res) 154] (.tup []))
abbrev Yq (l:List J0)(nesting:Int)(o03:D0)(v14:Int)(res:D0):Prop:=LM C 161 1 Tryz.f106 [1,4] [(0,.ref 0 0),(2,.d (.int .i64 nesting)),(12,.d (.sl (J0.rows l))),(13,.d (.int .i64 ((l).length:Int))),(14,.d (.int .i64 v14))] [.row (D0.cells o03) 154] (Ret [.row (D0.cells res) 154] (.tup []))
abbrev Zq (l:List J0)(nesting:Int)(o0:D0)(x1:J0)(x3:B2×Bool)(v141:Int)(res:D0):Prop:=JM C 161 1 Tryz.f106 [1,4,5,1,1,0,4,1,1,1,1,1,1,1] [(0,.ref 0 0),(2,.d (.int .i64 nesting)),(7,.ref 1 0),(8,.ref 2 0),(12,.d (.sl (J0.rows l))),(13,.d (.int .i64 ((l).length:Int))),(14,.d (.int .i64 v141))] [.row (D0.cells o0) 154,.row (J0.cells x1) 88,.row (B2.cells x3.1) 200] (Ret [.row (D0.cells res) 154] (.tup []))
abbrev Ar (l:List J0)(nesting:Int)(o01:D0)(x1:J0)(x3:B2×Bool)(v142:Int)(res:D0):Prop:=JM C 161 1 Tryz.f106 [1,4,5,1,1,0,4,1,1,1,1,1,1,1,1,1,1] [(0,.ref 0 0),(2,.d (.int .i64 nesting)),(7,.ref 1 0),(8,.ref 2 0),(12,.d (.sl (J0.rows l))),(13,.d (.int .i64 ((l).length:Int))),(14,.d (.int .i64 v142))] [.row (D0.cells o01) 154,.row (J0.cells x1) 88,.row (B2.cells x3.1) 200] (Ret [.row (D0.cells res) 154] (.tup []))
abbrev Br (l:List J0)(nesting:Int)(o02:D0)(x1:J0)(x3:B2×Bool)(v143:Int)(v84:Int)(res:D0):Prop:=LM C 161 1 Tryz.f106 [1,4,5,1,1,0,4,1,1,1,1,1,1,1,1,1,1,1,0,1,4] [(0,.ref 0 0),(2,.d (.int .i64 nesting)),(7,.ref 1 0),(8,.ref 2 0),(12,.d (.sl (J0.rows l))),(13,.d (.int .i64 ((l).length:Int))),(14,.d (.int .i64 v143)),(82,.d (.sl (B0.rows x1.Args))),(83,.d (.int .i64 ((x1.Args).length:Int))),(84,.d (.int .i64 v84))] [.row (D0.cells o02) 154,.row (J0.cells x1) 88,.row (B2.cells x3.1) 200] (Ret [.row (D0.cells res) 154] (.tup []))
theorem Vr:(∀ l nesting syntaxReport res,R4 l nesting syntaxReport=some res→Dl l nesting syntaxReport res)∧(∀ l nesting o03 v14 res,J8 l nesting o03 v14=some res→Yq l nesting o03 v14 res)∧(∀ l nesting o0 x1 x3 v141 res,K8 l nesting o0 x1 x3 v141=some res→Zq l nesting o0 x1 x3 v141 res)∧(∀ l nesting o01 x1 x3 v142 res,L8 l nesting o01 x1 x3 v142=some res→Ar l nesting o01 x1 x3 v142 res)∧(∀ l nesting o02 x1 x3 v143 v84 res,M8 l nesting o02 x1 x3 v143 v84=some res→Br l nesting o02 x1 x3 v143 v84 res):=by
 refine R4.mutual_partial_correctness _ _ _ _ _ ?_ ?_ ?_ ?_ ?_
 ·intro g1 ih1 l nesting syntaxReport res hh
  exact W0.intro hC Tryz.func106 rfl rfl rfl (p' 1 rfl (qe' rfl trivial (J0.lenA _) (e' rfl (bk' (fq (ih1 _ _ _ _ _ hh) rfl)))))
 ·intro g2 ih2 l nesting o03 v14 res hh
  refine F1.unroll (t' rfl (S' (ci' rfl hh (fun hh=>?_) (fun hh=>?_))))
  ·obtain ⟨x1,hx1,hh⟩:=bs' hh
   obtain ⟨x2,hx2,hh⟩:=bs' hh
   obtain ⟨x3,hx3,hh⟩:=bs' hh
   obtain ⟨x4,hx4,hh⟩:=bs' hh
   obtain ⟨x5,hx5,hh⟩:=bs' hh
   refine sk' (S' (bk' (s' rfl rfl (i' rfl (K3 hx1) (J0.idx hx1) rfl (q' rfl (C0.nf hC rfl (C0.s hC rfl (n' (p' 7 rfl (C0.s hC rfl (n' (p' 2 rfl (gq [0] (Ig hx2) rfl ?_)))))))))))))
   refine n' (p' 2 rfl (cq (Bw hx3) rfl (o' 3 rfl (C0.n hC rfl (C0.s hC rfl (e' rfl (p' 2 rfl (gq [0] (L1 hx4) rfl (n' (p' 5 rfl (gq [0] (Wd hx5) rfl (n' (S' ?_)))))))))))))
   refine t' rfl (ci' rfl hh (fun hh=>?_) (fun hh=>?_))
   ·obtain ⟨x6,hx6,hh⟩:=bs' hh
    obtain ⟨x7,hx7,hh⟩:=bs' hh
    exact P' 3 rfl (cq (Is hx6) rfl (gq [0] (L1 hx7) rfl (n' (eq' (ih2 _ _ _ _ _ _ _ hh) rfl))))
   exact sk' (eq' (ih2 _ _ _ _ _ _ _ hh) rfl)
  cases hh
  exact ex' (rn' rfl rfl rfl)
 ·intro g3 ih3 l nesting o0 x1 x3 v141 res hh
  obtain ⟨x8,hx8,hh⟩:=bs' hh
  obtain ⟨x9,hx9,hh⟩:=bs' hh
  refine p' 5 rfl (gq [0] (Wd hx8) rfl (n' (sg' 8 rfl (G' 5 rfl (a1' rfl (a1' rfl (po' rfl (an' (gq [0] (L1 hx9) rfl (n' (S' (t' rfl (ci' rfl hh (fun hh=>?_) (fun hh=>?_))))))))))))))
  ·obtain ⟨x10,hx10,hh⟩:=bs' hh
   exact P' 3 rfl (gq [0] (F9 hx10) rfl (n' (eq' (ih3 _ _ _ _ _ _ _ hh) rfl)))
  exact sk' (eq' (ih3 _ _ _ _ _ _ _ hh) rfl)
 ·intro g4 ih4 l nesting o01 x1 x3 v142 res hh
  obtain ⟨x11,hx11,hh⟩:=bs' hh
  exact sg' 9 rfl (G' 5 rfl (a1' rfl (AG.qe hC rfl (fun hg=>⟨⟨hg,trivial⟩,trivial⟩) (B0.lenA _) (a1' rfl (po' rfl (an' (gq [0] (L1 hx11) rfl (n' (S' (p' 2 rfl (qe' rfl trivial (B0.lenA _) (e' rfl (bk' (fq (ih4 _ _ _ _ _ _ _ _ hh) rfl))))))))))))))
 ·intro g0 g1 g4 ih0 ih1 ih4 l nesting o02 x1 x3 v143 v84 res hh
  refine F1.unroll (t' rfl (S' (ci' rfl hh (fun hh=>?_) (fun hh=>?_))))
  ·obtain ⟨x12,hx12,hh⟩:=bs' hh
   obtain ⟨x13,hx13,hh⟩:=bs' hh
   exact sk' (S' (bk' (s' rfl rfl (i' rfl (K3 hx12) (B0.idx hx12) rfl (q' rfl (C0.nf hC rfl (C0.s hC rfl (n' (P' 2 rfl (gq [0] (Cl hx13) rfl (n' (T' rfl (lq (ih4 _ _ _ _ _ _ _ _ hh) rfl)))))))))))))
  obtain ⟨x14,hx14,hh⟩:=bs' hh
  obtain ⟨x15,hx15,hh⟩:=bs' hh
  obtain ⟨x16,hx16,hh⟩:=bs' hh
  obtain ⟨x17,hx17,hh⟩:=bs' hh
  obtain ⟨x18,hx18,hh⟩:=bs' hh
  obtain ⟨x19,hx19,hh⟩:=bs' hh
  obtain ⟨x20,hx20,hh⟩:=bs' hh
  obtain ⟨x21,hx21,hh⟩:=bs' hh
  refine ex' (sg' 8 rfl (G' 5 rfl (a1' rfl (a1' rfl (po' rfl (an' (gq [0] (L1 hx14) rfl (n' (sg' 13 rfl (G' 5 rfl (a1' rfl (a1' rfl (a1' rfl ?_)))))))))))))
  refine a0' rfl (a1' rfl (a1' rfl (pA' rfl (po' rfl (an' (gq [0] (L1 hx15) rfl (n' (sg' 9 rfl (G' 5 rfl (a1' rfl (AG.qe hC rfl (fun hg=>⟨⟨hg,trivial⟩,trivial⟩) (ei64.lenA _) (a1' rfl (po' rfl ?_)))))))))))))
  refine an' (gq [0] (L1 hx16) rfl (n' (sg' 9 rfl (G' 5 rfl (a1' rfl (AG.qe hC rfl (fun hg=>⟨⟨hg,trivial⟩,trivial⟩) (J0.lenA _) (a1' rfl (po' rfl (an' (gq [0] (L1 hx17) rfl (n' (sg' 9 rfl (G' 5 rfl ?_)))))))))))))
  refine a1' rfl (AG.qe hC rfl (fun hg=>⟨⟨hg,trivial⟩,trivial⟩) (J0.lenA _) (a1' rfl (po' rfl (an' (gq [0] (L1 hx18) rfl (n' (p' 2 rfl (gq [0] (Xq hx19) rfl (n' (p' 5 rfl (gq [0] (ih0 _ _ _ _ hx20) rfl (n' (P' 5 rfl ?_)))))))))))))
  exact gq [0] (ih0 _ _ _ _ hx21) rfl (n' (T' rfl (lq (ih1 _ _ _ _ _ hh) rfl)))
theorem Ak {l nesting syntaxReport res}(hh:R4 l nesting syntaxReport=some res):Dl l nesting syntaxReport res:=(Vr).1 _ _ _ _ hh
mutual
def Z4 (l:List E0)(syntaxReport:D0):Option D0:=
 N8 l syntaxReport 0
 partial_fixpoint
def N8 (l:List E0)(o03:D0)(v15:Int):Option D0:=
 if (decide (v15 < ((l).length:Int)))=true then
  idx l v15>>=fun x1=>
  Kf x1.Kind>>=fun x2=>
  N1 x2.1 (D0.mk (IntKind.i64.wrap (o03.nodes+1)) o03.depth o03.badForm o03.badName o03.badNumber)>>=fun x3=>
  (if (!x2.1)=true then J7 x1.TypeV (L0.mk 0 0 0 0 [] [] []) else some default)>>=fun x4=>
  if (bif x2.1 then true else (!x4))=true then
   H6 x1.TypeV 1 x3>>=fun x5=>
   O8 l x5 x1 x2 v15
  else
   O8 l x3 x1 x2 v15
 else
  some o03
 partial_fixpoint
def O8 (l:List E0)(o0:D0)(x1:E0)(x2:Bool×Bool)(v151:Int):Option D0:=
 D5 x1.Name o0>>=fun x6=>
 F5 x1.Value x2.2 x6>>=fun x7=>
 N1 (bif (x1.Kind == 4) then true else (x1.Init == 0)) x7>>=fun x8=>
 F4 x1.Init (-1048576) 1048576>>=fun x9=>
 (if (x9&&(!(x1.TypeV.Kind != 0)))=true then F4 x1.Init 0 1 else some default)>>=fun x10=>
 Z2 (bif x9 then (bif (x1.TypeV.Kind != 0) then true else x10) else false) x8>>=fun x11=>
 N1 (bif (x1.Kind == 6) then true else (bif (bif (((x1.Params).length:Int) == 0) then (((x1.Vars).length:Int) == 0) else false) then (((x1.Body).length:Int) == 0) else false)) x11>>=fun x12=>
 P8 l x12 x1 v151 0
 partial_fixpoint
def P8 (l:List E0)(o01:D0)(x1:E0)(v152:Int)(v109:Int):Option D0:=
 if (decide (v109 < ((x1.Params).length:Int)))=true then
  idx x1.Params v109>>=fun x13=>
  N1 (bif (x13.Kind == 4) then (x13.Init == 0) else false) o01>>=fun x14=>
  P8 l x14 x1 v152 (IntKind.i64.wrap (v109+1))
 else
  Q8 l o01 x1 v152 0
 partial_fixpoint
def Q8 (l:List E0)(o02:D0)(x1:E0)(v153:Int)(v127:Int):Option D0:=
 if (decide (v127 < ((x1.Vars).length:Int)))=true then
  idx x1.Vars v127>>=fun x15=>
  N1 (x15.Kind == 4) o02>>=fun x16=>
  Q8 l x16 x1 v153 (IntKind.i64.wrap (v127+1))
 else
  Z4 x1.Params o02>>=fun x17=>
  Z4 x1.Vars x17>>=fun x18=>
  R4 x1.Body 1 x18>>=fun x19=>
  N8 l x19 (IntKind.i64.wrap (v153+1))
 partial_fixpoint
end
abbrev El (l:List E0)(syntaxReport:D0)(res:D0):Prop:=W0 C 105 [.ref 0 0,.d (.sl (E0.rows l))] [.row (D0.cells syntaxReport) 154] (Ret [.row (D0.cells res) 154] (.tup []))
abbrev Cr (l:List E0)(o03:D0)(v15:Int)(res:D0):Prop:=LM C 150 1 Tryz.f105 [1,4] [(0,.ref 0 0),(13,.d (.sl (E0.rows l))),(14,.d (.int .i64 ((l).length:Int))),(15,.d (.int .i64 v15))] [.row (D0.cells o03) 154] (Ret [.row (D0.cells res) 154] (.tup []))
abbrev Dr (l:List E0)(o0:D0)(x1:E0)(x2:Bool×Bool)(v151:Int)(res:D0):Prop:=JM C 150 1 Tryz.f105 [1,4,5,1,1,0,4,1,1,1,1,1] [(0,.ref 0 0),(5,.ref 1 0),(7,.d (.bool x2.2)),(13,.d (.sl (E0.rows l))),(14,.d (.int .i64 ((l).length:Int))),(15,.d (.int .i64 v151))] [.row (D0.cells o0) 154,.row (E0.cells x1) 82] (Ret [.row (D0.cells res) 154] (.tup []))
abbrev Er (l:List E0)(o01:D0)(x1:E0)(v152:Int)(v109:Int)(res:D0):Prop:=LM C 150 1 Tryz.f105 [1,4,5,1,1,0,4,1,1,1,1,1,1,1,1,1,1,1,0,1,4] [(0,.ref 0 0),(5,.ref 1 0),(13,.d (.sl (E0.rows l))),(14,.d (.int .i64 ((l).length:Int))),(15,.d (.int .i64 v152)),(107,.d (.sl (E0.rows x1.Params))),(108,.d (.int .i64 ((x1.Params).length:Int))),(109,.d (.int .i64 v109))] [.row (D0.cells o01) 154,.row (E0.cells x1) 82] (Ret [.row (D0.cells res) 154] (.tup []))
abbrev Gr (l:List E0)(o02:D0)(x1:E0)(v153:Int)(v127:Int)(res:D0):Prop:=LM C 150 1 Tryz.f105 [1,4,5,1,1,0,4,1,1,1,1,1,1,1,1,1,1,1,1,0,1,4] [(0,.ref 0 0),(5,.ref 1 0),(13,.d (.sl (E0.rows l))),(14,.d (.int .i64 ((l).length:Int))),(15,.d (.int .i64 v153)),(125,.d (.sl (E0.rows x1.Vars))),(126,.d (.int .i64 ((x1.Vars).length:Int))),(127,.d (.int .i64 v127))] [.row (D0.cells o02) 154,.row (E0.cells x1) 82] (Ret [.row (D0.cells res) 154] (.tup []))
theorem Wr:(∀ l syntaxReport res,Z4 l syntaxReport=some res→El l syntaxReport res)∧(∀ l o03 v15 res,N8 l o03 v15=some res→Cr l o03 v15 res)∧(∀ l o0 x1 x2 v151 res,O8 l o0 x1 x2 v151=some res→Dr l o0 x1 x2 v151 res)∧(∀ l o01 x1 v152 v109 res,P8 l o01 x1 v152 v109=some res→Er l o01 x1 v152 v109 res)∧(∀ l o02 x1 v153 v127 res,Q8 l o02 x1 v153 v127=some res→Gr l o02 x1 v153 v127 res):=by
 refine Z4.mutual_partial_correctness _ _ _ _ _ ?_ ?_ ?_ ?_ ?_
 ·intro g1 ih1 l syntaxReport res hh
  exact W0.intro hC Tryz.func105 rfl rfl rfl (p' 1 rfl (qe' rfl trivial (E0.lenA _) (e' rfl (bk' (fq (ih1 _ _ _ _ hh) rfl)))))
 ·intro g2 ih2 l o03 v15 res hh
  refine F1.unroll (t' rfl (S' (ci' rfl hh (fun hh=>?_) (fun hh=>?_))))
  ·obtain ⟨x1,hx1,hh⟩:=bs' hh
   obtain ⟨x2,hx2,hh⟩:=bs' hh
   obtain ⟨x3,hx3,hh⟩:=bs' hh
   obtain ⟨x4,hx4,hh⟩:=bs' hh
   refine sk' (S' (bk' (s' rfl rfl (i' rfl (K3 hx1) (E0.idx hx1) rfl (q' rfl (C0.nf hC rfl (C0.s hC rfl (n' (p' 7 rfl (C0.s hC rfl (n' (p' 2 rfl (cq (Dx hx2) rfl ?_)))))))))))))
   refine e' rfl (p' 2 rfl (gq [0] (L1 hx3) rfl (n' (S' (sg' 8 rfl (G' 3 rfl (a1' rfl (a0' rfl (AG.c rfl rfl (fun hg=>⟨hg,hg,trivial⟩) (fun hw=>Xv (R9 hw hx4)) (a1' rfl (po' rfl (an' (n' (ci' rfl hh (fun hh=>?_) (fun hh=>?_)))))))))))))))
   ·obtain ⟨x5,hx5,hh⟩:=bs' hh
    exact P' 3 rfl (gq [0] (Kv hx5) rfl (n' (eq' (ih2 _ _ _ _ _ _ hh) rfl)))
   exact sk' (eq' (ih2 _ _ _ _ _ _ hh) rfl)
  cases hh
  exact ex' (rn' rfl rfl rfl)
 ·intro g3 ih3 l o0 x1 x2 v151 res hh
  obtain ⟨x6,hx6,hh⟩:=bs' hh
  obtain ⟨x7,hx7,hh⟩:=bs' hh
  obtain ⟨x8,hx8,hh⟩:=bs' hh
  obtain ⟨x9,hx9,hh⟩:=bs' hh
  obtain ⟨x10,hx10,hh⟩:=bs' hh
  obtain ⟨x11,hx11,hh⟩:=bs' hh
  obtain ⟨x12,hx12,hh⟩:=bs' hh
  refine p' 3 rfl (gq [0] (F9 hx6) rfl (n' (p' 4 rfl (gq [0] (Wd hx7) rfl (n' (sg' 9 rfl (G' 6 rfl (a1' rfl (a1' rfl (po' rfl (an' (gq [0] (L1 hx8) rfl (n' ?_)))))))))))))
  refine sg' 15 rfl (G' 3 rfl (AG.c rfl rfl (fun _=>trivial) (fun _=>S4 hx9) (G' 2 rfl (a1' rfl (a1' rfl (a1' rfl (a1' rfl (a0' rfl (a1' rfl (AG.c rfl rfl (fun hg=>⟨hg,trivial⟩) (fun hw=>S4 (R9 hw hx10)) (pO' rfl (pa' rfl (an' ?_)))))))))))))
  refine gq [0] (U3 hx11) rfl (n' (t' rfl (sg' 20 rfl (G' 4 rfl (a1' rfl (AG.qe hC rfl (fun hg=>⟨⟨hg,trivial⟩,trivial⟩) (E0.lenA _) (a1' rfl (a1' rfl (a0' rfl (a1' rfl (AG.qe hC rfl (fun hg=>⟨⟨hg,trivial⟩,trivial⟩) (E0.lenA _) (a1' rfl (pA' rfl ?_)))))))))))))
  refine a1' rfl (a0' rfl (a1' rfl (AG.qe hC rfl (fun hg=>⟨⟨hg,trivial⟩,trivial⟩) (J0.lenA _) (a1' rfl (pA' rfl (po' rfl (an' (gq [0] (L1 hx12) rfl (n' (S' (p' 2 rfl (qe' rfl trivial (E0.lenA _) (e' rfl ?_)))))))))))))
  exact bk' (fq (ih3 _ _ _ _ _ _ hh) rfl)
 ·intro g3 g4 ih3 ih4 l o01 x1 v152 v109 res hh
  refine F1.unroll (t' rfl (S' (ci' rfl hh (fun hh=>?_) (fun hh=>?_))))
  ·obtain ⟨x13,hx13,hh⟩:=bs' hh
   obtain ⟨x14,hx14,hh⟩:=bs' hh
   refine sk' (S' (bk' (s' rfl rfl (i' rfl (K3 hx13) (E0.idx hx13) rfl (q' rfl (C0.nf hC rfl (C0.s hC rfl (n' (AEx.regionG 9 rfl (G' 6 rfl (a1' rfl (a1' rfl (pa' rfl ?_)))))))))))))
   exact an' (gq [0] (L1 hx14) rfl (n' (T' rfl (lq (ih3 _ _ _ _ _ _ hh) rfl))))
  exact ex' (S' (p' 2 rfl (qe' rfl trivial (E0.lenA _) (e' rfl (bk' (fq (ih4 _ _ _ _ _ _ hh) rfl))))))
 ·intro g0 g1 g4 ih0 ih1 ih4 l o02 x1 v153 v127 res hh
  refine F1.unroll (t' rfl (S' (ci' rfl hh (fun hh=>?_) (fun hh=>?_))))
  ·obtain ⟨x15,hx15,hh⟩:=bs' hh
   obtain ⟨x16,hx16,hh⟩:=bs' hh
   exact sk' (S' (bk' (s' rfl rfl (i' rfl (K3 hx15) (E0.idx hx15) rfl (q' rfl (C0.nf hC rfl (C0.s hC rfl (n' (P' 4 rfl (gq [0] (L1 hx16) rfl (n' (T' rfl (lq (ih4 _ _ _ _ _ _ hh) rfl)))))))))))))
  obtain ⟨x17,hx17,hh⟩:=bs' hh
  obtain ⟨x18,hx18,hh⟩:=bs' hh
  obtain ⟨x19,hx19,hh⟩:=bs' hh
  exact ex' (p' 3 rfl (gq [0] (ih0 _ _ _ hx17) rfl (n' (p' 3 rfl (gq [0] (ih0 _ _ _ hx18) rfl (n' (P' 3 rfl (gq [0] (Ak hx19) rfl (n' (T' rfl (lq (ih1 _ _ _ _ hh) rfl)))))))))))
theorem Bt {l syntaxReport res}(hh:Z4 l syntaxReport=some res):El l syntaxReport res:=(Wr).1 _ _ _ hh
def Kg (p:E1):Option D0:=
 Z4 p.Decls (D0.mk 0 0 false false false)>>=fun x1=>
 R4 p.Body 1 x1>>=fun x2=>
 some x2
theorem Dy {p res}(hh:Kg p=some res):W0 C 69 [.agg (E1.cells p)] [] (Ret [.dead,.row (D0.cells res) 154] (.ref 1 0)):=by
 unfold Kg at hh
 obtain ⟨x1,hx1,hh⟩:=bs' hh
 obtain ⟨x2,hx2,hh⟩:=bs' hh
 refine W0.intro hC Tryz.func69 rfl rfl rfl (s' rfl rfl (C0.n hC rfl (e' rfl (p' 1 rfl (C0.n hC rfl (e' rfl (p' 3 rfl (gq [1] (Bt hx1) rfl (n' (p' 3 rfl (gq [1] (Ak hx2) rfl (n' (t' rfl ?_)))))))))))))
 refine re' ?_
 have hq:=oi' hh
 subst hq
 exact ⟨_,_,[.dead,.row (D0.cells x2) 154],rfl,.rfl,⟨trivial,⟨rfl,.refl _,rfl⟩,trivial⟩,rfl,rfl,rfl,rfl⟩
def Uc (syntaxReport:D0):Option Int:=
 if (bif (decide (syntaxReport.nodes > 1024)) then true else (decide (syntaxReport.depth > 12)))=true then
  some 4
 else
  if syntaxReport.badForm=true then
   some 1
  else
   if syntaxReport.badName=true then
    some 7
   else
    if syntaxReport.badNumber=true then
     some 3
    else
     some 0
theorem Ku {syntaxReport res}(hh:Uc syntaxReport=some res):W0 C 70 [.ref 0 0] [.row (D0.cells syntaxReport) 154] (Ret [.row (D0.cells syntaxReport) 154] (.d (.int .i64 res))):=by
 unfold Uc at hh
 refine W0.intro hC Tryz.func70 rfl rfl rfl (t' rfl (S' (bk' (sg' 13 rfl (G' 7 rfl (a1' rfl (a1' rfl (a1' rfl (a1' rfl (po' rfl (a0' rfl (an' (n' (ci' rfl hh (fun hh=>?_) (fun hh=>?_)))))))))))))))
 ·cases hh
  exact t' rfl (re' (rq rfl))
 refine t' rfl (ci' rfl hh (fun hh=>?_) (fun hh=>?_))
 ·cases hh
  exact t' rfl (re' (rq rfl))
 refine t' rfl (ci' rfl hh (fun hh=>?_) (fun hh=>?_))
 ·cases hh
  exact t' rfl (re' (rq rfl))
 refine t' rfl (ci' rfl hh (fun hh=>?_) (fun hh=>?_))
 ·cases hh
  exact t' rfl (re' (rq rfl))
 cases hh
 exact sk' (t' rfl (re' (rq rfl)))
def Cj (p:E1):Option Int:=
 Kg p>>=fun x1=>
 Uc x1>>=fun x2=>
 some x2
theorem O10 {p res}(hh:Cj p=some res):W0 C 36 [.agg (E1.cells p)] [] (Ret [] (.d (.int .i64 res))):=by
 unfold Cj at hh
 obtain ⟨x1,hx1,hh⟩:=bs' hh
 obtain ⟨x2,hx2,hh⟩:=bs' hh
 cases hh
 exact W0.intro hC Tryz.func36 rfl rfl rfl (s' rfl rfl (C0.n hC rfl (e' rfl (p' 1 rfl (gq [] (Dy hx1) rfl (gq [2] (Ku hx2) rfl (e' rfl (re' (rq rfl)))))))))
def Dj (text:Str):Option (E1×Int×Int):=
 Hg text (E1.mk [] [])>>=fun x1=>
 if (x1.2.1 != 0)=true then
  some ((E1.mk [] []),x1.1,x1.2.1)
 else
  Cj x1.2.2>>=fun x2=>
  if (x2 != 0)=true then
   some ((E1.mk [] []),0,x2)
  else
   some (x1.2.2,0,0)
theorem P10 {text res}(hh:Dj text=some res):W0 C 21 [.d (.str text)] [] (Ret [] (.tup [.agg (E1.cells res.1),.d (.int .i64 res.2.1),.d (.int .i64 res.2.2)])):=by
 unfold Dj at hh
 obtain ⟨x1,hx1,hh⟩:=bs' hh
 refine W0.intro hC Tryz.func21 rfl rfl rfl (s' rfl rfl (C0.nf hC rfl (e' rfl (s' rfl rfl (C0.nf hC rfl (n' (p' 2 rfl (gq [1] (Cy hx1) rfl (e' rfl (S' (t' rfl (ci' rfl hh (fun hh=>?_) (fun hh=>?_)))))))))))))
 ·cases hh
  exact p' 3 rfl (C0.s hC rfl (e' rfl (re' (rq rfl))))
 obtain ⟨x2,hx2,hh⟩:=bs' hh
 refine sk' (S' (p' 1 rfl (cq (O10 hx2) rfl (e' rfl (t' rfl (ci' rfl hh (fun hh=>?_) (fun hh=>?_)))))))
 ·cases hh
  exact p' 2 rfl (C0.s hC rfl (e' rfl (re' (rq rfl))))
 cases hh
 exact sk' (p' 1 rfl (C0.s hC rfl (e' rfl (re' (rq rfl)))))
def A8 (text:Str)(list:Str)(x3:Str)(x4:Str)(x5:Str)(x6:Str)(x7:Str)(v58:Int):Option (E1×Int):=
 if (decide (v58 < (([(P1.mk [60,65,62] x3),(P1.mk [60,66,62] x4),(P1.mk [60,84,62] x5),(P1.mk [60,97,62] x6),(P1.mk [60,98,62] x7),(P1.mk [60,78,62] list)]).length:Int)))=true then
  idx [(P1.mk [60,65,62] x3),(P1.mk [60,66,62] x4),(P1.mk [60,84,62] x5),(P1.mk [60,97,62] x6),(P1.mk [60,98,62] x7),(P1.mk [60,78,62] list)] v58>>=fun x8=>
  Qq text x8.x0 x8.x1>>=fun x9=>
  A8 x9 list x3 x4 x5 x6 x7 (IntKind.i64.wrap (v58+1))
 else
  Dj text>>=fun x10=>
  if (x10.2.2 != 0)=true then
   some ((E1.mk [] []),x10.2.2)
  else
   some (x10.1,0)
 partial_fixpoint
abbrev Yp (text:Str)(list:Str)(x3:Str)(x4:Str)(x5:Str)(x6:Str)(x7:Str)(v58:Int)(res:E1×Int):Prop:=LM C 80 0 Tryz.f7 [1,1,1,1,1,1,0,1,4] [(6,.ref 0 0),(11,.d (.str text)),(56,.full (P1.rows [(P1.mk [60,65,62] x3),(P1.mk [60,66,62] x4),(P1.mk [60,84,62] x5),(P1.mk [60,97,62] x6),(P1.mk [60,98,62] x7),(P1.mk [60,78,62] list)])),(57,.d (.int .i64 (([(P1.mk [60,65,62] x3),(P1.mk [60,66,62] x4),(P1.mk [60,84,62] x5),(P1.mk [60,97,62] x6),(P1.mk [60,98,62] x7),(P1.mk [60,78,62] list)]).length:Int))),(58,.d (.int .i64 v58))] [.row [.full (E0.rows []),.full (J0.rows [])] 26] (Ret [] (.tup [.agg (E1.cells res.1),.d (.int .i64 res.2)]))
theorem Cw (list:Str)(x3:Str)(x4:Str)(x5:Str)(x6:Str)(x7:Str):(∀ text v58 res,A8 text list x3 x4 x5 x6 x7 v58=some res→Yp text list x3 x4 x5 x6 x7 v58 res):=by
 refine A8.partial_correctness list x3 x4 x5 x6 x7 _ ?_
 ·intro g0 ih0 text v58 res hh
  refine F1.unroll (t' rfl (S' (ci' rfl hh (fun hh=>?_) (fun hh=>?_))))
  ·obtain ⟨x8,hx8,hh⟩:=bs' hh
   obtain ⟨x9,hx9,hh⟩:=bs' hh
   refine sk' (S' (bk' (s' rfl rfl (i' rfl (K3 hx8) (P1.idx hx8) rfl (q' rfl (C0.n hC rfl (C0.s hC rfl (n' (P' 1 rfl (qc' rfl (by decide) (q' rfl (qc' rfl (by decide) (q' rfl ?_)))))))))))))
   exact cq (D10 hx9) rfl (e' rfl (T' rfl (lq (ih0 _ _ _ hh) rfl)))
  obtain ⟨x10,hx10,hh⟩:=bs' hh
  refine ex' (p' 1 rfl (cq (P10 hx10) rfl (o' 4 rfl (C0.nf hC rfl (C0.s hC rfl (e' rfl (S' (t' rfl (ci' rfl hh (fun hh=>?_) (fun hh=>?_))))))))))
  ·cases hh
   exact p' 2 rfl (C0.s hC rfl (e' rfl (re' (rq rfl))))
  cases hh
  exact sk' (p' 1 rfl (C0.s hC rfl (e' rfl (re' (rq rfl)))))
theorem Ix {text list x3 x4 x5 x6 x7 v58 res}(hh:A8 text list x3 x4 x5 x6 x7 v58=some res):Yp text list x3 x4 x5 x6 x7 v58 res:=(Cw list x3 x4 x5 x6 x7) _ _ _ hh
def Gd (a:Int)(b:Int)(x1:K0×Int)(list:Str):Option (E1×Int):=
 Vl (IntKind.i64.wrap (a - 1))>>=fun x3=>
 Vl (IntKind.i64.wrap (b - 1))>>=fun x4=>
 Vl (IntKind.i64.wrap (a * b))>>=fun x5=>
 Vl a>>=fun x6=>
 Vl b>>=fun x7=>
 A8 x1.1.text list x3 x4 x5 x6 x7 0
theorem Hp {a b x1 list res}(hh:Gd a b x1 list=some res):JM C 80 0 Tryz.f7 [1,1,1,1,1] [(1,.d (.int .i64 a)),(2,.d (.int .i64 b)),(6,.ref 0 0),(8,.ref 1 0),(10,.d (.str list))] [.row [.full (E0.rows []),.full (J0.rows [])] 26,.row (K0.cells x1.1) 46] (Ret [] (.tup [.agg (E1.cells res.1),.d (.int .i64 res.2)])):=by
 unfold Gd at hh
 obtain ⟨x3,hx3,hh⟩:=bs' hh
 obtain ⟨x4,hx4,hh⟩:=bs' hh
 obtain ⟨x5,hx5,hh⟩:=bs' hh
 obtain ⟨x6,hx6,hh⟩:=bs' hh
 obtain ⟨x7,hx7,hh⟩:=bs' hh
 refine t' rfl (S' (p' 2 rfl (cq (Zk hx3) rfl (o' 3 rfl (cq (Zk hx4) rfl (o' 4 rfl (cq (Zk hx5) rfl (o' 2 rfl (cq (Zk hx6) rfl (o' 2 rfl (cq (Zk hx7) rfl (o' 3 rfl ?_))))))))))))
 exact C0.be hC rfl (P1.rows_map [(P1.mk [60,65,62] x3),(P1.mk [60,66,62] x4),(P1.mk [60,84,62] x5),(P1.mk [60,97,62] x6),(P1.mk [60,98,62] x7),(P1.mk [60,78,62] list)]).symm (qe' rfl trivial (P1.lenA _) (e' rfl (bk' (fq (Ix hh) rfl))))
def Z5 (family:Str)(a:Int)(b:Int):Option (E1×Int):=
 E7 family a b>>=fun x1=>
 if (x1.2 != 0)=true then
  some ((E1.mk [] []),x1.2)
 else
  if (x1.1.name == [115,101,97,114,99,104])=true then
   Ai a b>>=fun x2=>
   Gd a b x1 x2
  else
   Gd a b x1 []
theorem Js {family a b res}(hh:Z5 family a b=some res):W0 C 7 [.d (.str family),.d (.int .i64 a),.d (.int .i64 b)] [] (Ret [] (.tup [.agg (E1.cells res.1),.d (.int .i64 res.2)])):=by
 unfold Z5 at hh
 obtain ⟨x1,hx1,hh⟩:=bs' hh
 refine W0.intro hC Tryz.func7 rfl rfl rfl (s' rfl rfl (C0.nf hC rfl (e' rfl (p' 3 rfl (cq (Gs hx1) rfl (o' 3 rfl (C0.n hC rfl (C0.s hC rfl (e' rfl (S' (t' rfl (ci' rfl hh (fun hh=>?_) (fun hh=>?_)))))))))))))
 ·cases hh
  exact p' 2 rfl (C0.s hC rfl (e' rfl (re' (rq rfl))))
 refine sk' (t' rfl (S' (t' rfl (ci' rfl hh (fun hh=>?_) (fun hh=>?_)))))
 ·obtain ⟨x2,hx2,hh⟩:=bs' hh
  exact P' 2 rfl (cq (Xy hx2) rfl (e' rfl (eq' (Hp hh) rfl)))
 exact sk' (eq' (Hp hh) rfl)
def Rf:Option Bool:=
 B5 [100,105,103,105,116,115] 3 4>>=fun x1=>
 B5 [115,101,97,114,99,104] 10 3>>=fun x2=>
 Z5 [112,97,114,105,116,121] 4 0>>=fun x3=>
 some (bif (bif (bif (bif (bif (bif (bif (bif (x1.2.2 == 0) then (x2.2.2 == 0) else false) then (x3.2 == 0) else false) then (x1.1 == 4) else false) then (x1.2.1 == 2) else false) then (x2.1 == 3) else false) then (x2.2.1 == 1) else false) then (((x3.1.Decls).length:Int) == 1) else false) then (((x3.1.Body).length:Int) == 1) else false)
theorem M11 {res}(hh:Rf=some res):W0 C 6 [] [] (Ret [] (.d (.bool res))):=by
 unfold Rf at hh
 obtain ⟨x1,hx1,hh⟩:=bs' hh
 obtain ⟨x2,hx2,hh⟩:=bs' hh
 obtain ⟨x3,hx3,hh⟩:=bs' hh
 cases hh
 refine W0.intro hC Tryz.func6 rfl rfl rfl (t' rfl (s' rfl rfl (cq (Kk hx1) rfl (e' rfl (s' rfl rfl (cq (Kk hx2) rfl (e' rfl (s' rfl rfl (cq (Js hx3) rfl (o' 3 rfl (C0.nf hC rfl (C0.s hC rfl (e' rfl ?_)))))))))))))
 refine sg' 39 rfl (G' 4 rfl (a1' rfl (pa' rfl (G' 2 rfl (a1' rfl (pa' rfl (G' 2 rfl (a1' rfl (pa' rfl (G' 2 rfl (a1' rfl (pa' rfl (G' 2 rfl ?_)))))))))))))
 refine a1' rfl (pa' rfl (G' 2 rfl (a1' rfl (pa' rfl (G' 2 rfl (a1' rfl (AG.qe hC rfl (fun hg=>⟨⟨hg,trivial⟩,trivial⟩) (E0.lenA _) (a1' rfl (pa' rfl (G' 2 rfl (a1' rfl (AG.qe hC rfl (fun hg=>⟨⟨hg,trivial⟩,trivial⟩) (J0.lenA _) (a1' rfl ?_)))))))))))))
 exact pa' rfl (a0' rfl (an' (n' (re' (rq rfl)))))
def J5 (out:List Str)(x1:List K0)(v6:Int):Option (List Str):=
 if (decide (v6 < ((x1).length:Int)))=true then
  idx x1 v6>>=fun x2=>
  if (decide ((out.length+1) * 17≤140737488355328))=true then
   J5 (out++[x2.name]) x1 (IntKind.i64.wrap (v6+1))
  else none
 else
  some out
 partial_fixpoint
abbrev Fl (out:List Str)(x1:List K0)(v6:Int)(res:List Str):Prop:=LM C 17 0 Tryz.f13 [1,1,0,1,4] [(1,.osl 0 (estr.rows out)),(4,.d (.sl (K0.rows x1))),(5,.d (.int .i64 ((x1).length:Int))),(6,.d (.int .i64 v6))] [.tok 9 1] (Ret [] (.d (.sl (estr.rows res))))
theorem Xr (x1:List K0):(∀ out v6 res,J5 out x1 v6=some res→Fl out x1 v6 res):=by
 refine J5.partial_correctness x1 _ ?_
 ·intro g0 ih0 out v6 res hh
  refine F1.unroll (t' rfl (S' (ci' rfl hh (fun hh=>?_) (fun hh=>?_))))
  ·obtain ⟨x2,hx2,hh⟩:=bs' hh
   obtain ⟨c5,hh⟩:=V4 hh
   exact sk' (S' (bk' (s' rfl rfl (i' rfl (K3 hx2) (K0.idx hx2) rfl (q' rfl (C0.n hC rfl (C0.s hC rfl (n' (P' 3 rfl (C0.be hC rfl (estr.rows_map [x2.name]).symm (C0.ap hC rfl (rs:=estr.rows (out++[x2.name])) (estr.app out [x2.name]) (estr.sz out) (estr.sz [x2.name]) (V1 (estr.len out) (estr.len [x2.name]) c5) (e' rfl (T' rfl (lq (ih0 _ _ _ hh) rfl))))))))))))))
  refine ex' (t' rfl (re' ?_))
  have hq:=oi' hh
  subst hq
  exact ⟨_,.d (.sl (estr.rows out)),[],rfl,.osl,trivial,rfl,rfl,rfl,rfl⟩
theorem Ct {out x1 v6 res}(hh:J5 out x1 v6=some res):Fl out x1 v6 res:=(Xr x1) _ _ _ hh
def Me:Option (List Str):=
 D7>>=fun x1=>
 J5 [] x1 0
theorem Dw {res}(hh:Me=some res):W0 C 13 [] [] (Ret [] (.d (.sl (estr.rows res)))):=by
 unfold Me at hh
 obtain ⟨x1,hx1,hh⟩:=bs' hh
 exact W0.intro hC Tryz.func13 rfl rfl rfl (t' rfl (p' 1 rfl (C0.tokE 1 9 1 rfl (n' (S' (s' rfl rfl (cq (Qm hx1) rfl (qe' rfl trivial (K0.lenA _) (e' rfl (bk' (fq (Ct hh) rfl)))))))))))
def B3 (s:List Str)(v:Str)(v8:Int):Option Int:=
 if (decide (v8 < ((s).length:Int)))=true then
  idx s v8>>=fun x1=>
  if (v == x1)=true then
   some v8
  else
   B3 s v (IntKind.i64.wrap (v8+1))
 else
  some (-1)
 partial_fixpoint
abbrev Ye (s:List Str)(v:Str)(v8:Int)(res:Int):Prop:=LM C 19 0 Tryz.f27 [1,0,1,4] [(0,.d (.sl (estr.rows s))),(1,.d (.str v)),(7,.d (.int .i64 ((s).length:Int))),(8,.d (.int .i64 v8))] [] (Ret [] (.d (.int .i64 res)))
theorem Bk (s:List Str)(v:Str):(∀ v8 res,B3 s v v8=some res→Ye s v v8 res):=by
 refine B3.partial_correctness s v _ ?_
 ·intro g0 ih0 v8 res hh
  refine F1.unroll (t' rfl (S' (ci' rfl hh (fun hh=>?_) (fun hh=>?_))))
  ·obtain ⟨x1,hx1,hh⟩:=bs' hh
   refine sk' (S' (bk' (t' rfl (p' 3 rfl (i' rfl (K3 hx1) (estr.idx hx1) rfl (e' rfl (ci' rfl hh (fun hh=>?_) (fun hh=>?_))))))))
   ·cases hh
    exact t' rfl (re' (rq rfl))
   exact sk' (T' rfl (lq (ih0 _ _ hh) rfl))
  cases hh
  exact ex' (t' rfl (re' (rq rfl)))
theorem Mk {s v v8 res}(hh:B3 s v v8=some res):Ye s v v8 res:=(Bk s v) _ _ hh
def W8 (s:List Str)(v:Str):Option Int:=
 B3 s v 0
theorem Nm {s v res}(hh:W8 s v=some res):W0 C 27 [.d (.sl (estr.rows s)),.d (.str v)] [] (Ret [] (.d (.int .i64 res))):=by
 unfold W8 at hh
 exact W0.intro hC Tryz.func27 rfl rfl rfl (t' rfl (S' (p' 1 rfl (qe' rfl trivial (estr.lenA _) (e' rfl (bk' (fq (Mk hh) rfl)))))))
def H5 (s:List Str)(v:Str):Option Bool:=
 W8 s v>>=fun x1=>
 some (decide (x1≥0))
theorem Ok {s v res}(hh:H5 s v=some res):W0 C 14 [.d (.sl (estr.rows s)),.d (.str v)] [] (Ret [] (.d (.bool res))):=by
 unfold H5 at hh
 obtain ⟨x1,hx1,hh⟩:=bs' hh
 cases hh
 exact W0.intro hC Tryz.func14 rfl rfl rfl (t' rfl (p' 2 rfl (cq (Nm hx1) rfl (e' rfl (re' (rq rfl))))))
def Fe:Option (List Str):=
 some [[112,97,115,115,119,111,114,100],[100,105,103,105,116,115],[98,105,116,115],[112,97,114,105,116,121],[100,105,99,101],[112,111,119,101,114],[116,104,114,101,115,104,111,108,100],[109,97,115,107,101,100],[115,101,97,114,99,104]]
theorem Ey {res}(hh:Fe=some res):W0 C 16 [] [] (Ret [] (.d (.sl (estr.rows res)))):=by
 unfold Fe at hh
 refine W0.intro hC Tryz.func16 rfl rfl rfl (t' rfl (s' rfl rfl (C0.be hC rfl (estr.rows_map [[112,97,115,115,119,111,114,100],[100,105,103,105,116,115],[98,105,116,115],[112,97,114,105,116,121],[100,105,99,101],[112,111,119,101,114],[116,104,114,101,115,104,111,108,100],[109,97,115,107,101,100],[115,101,97,114,99,104]]).symm (e' rfl (re' ?_)))))
 have hq:=oi' hh
 subst hq
 exact ⟨_,.d (.sl (estr.rows [[112,97,115,115,119,111,114,100],[100,105,103,105,116,115],[98,105,116,115],[112,97,114,105,116,121],[100,105,99,101],[112,111,119,101,114],[116,104,114,101,115,104,111,108,100],[109,97,115,107,101,100],[115,101,97,114,99,104]])),[],rfl,.full,trivial,rfl,rfl,rfl,rfl⟩
def L9 (family:Str):Option Bool:=
 Rf>>=fun x1=>
 if (!x1)=true then
  some false
 else
  if (decide (((family).length:Int) > 100))=true then
   some true
  else
   Me>>=fun x2=>
   Z5 family 4 0>>=fun x3=>
   B5 family 4 0>>=fun x4=>
   H5 x2 family>>=fun x5=>
   Fe>>=fun x6=>
   Z3 x2 x6>>=fun x7=>
   some (bif (bif x7 then (x5 == (x3.2 != 7)) else false) then (x5 == (x4.2.2 != 7)) else false)
theorem Hr {family res}(hh:L9 family=some res):W0 C 5 [.d (.str family)] [] (Ret [] (.d (.bool res))):=by
 unfold L9 at hh
 obtain ⟨x1,hx1,hh⟩:=bs' hh
 refine W0.intro hC Tryz.func5 rfl rfl rfl (t' rfl (S' (s' rfl rfl (cq (M11 hx1) rfl (e' rfl (ci' rfl hh (fun hh=>?_) (fun hh=>?_)))))))
 ·cases hh
  exact t' rfl (re' (rq rfl))
 refine sk' (S' (t' rfl (ci' rfl hh (fun hh=>?_) (fun hh=>?_))))
 ·cases hh
  exact t' rfl (re' (rq rfl))
 obtain ⟨x2,hx2,hh⟩:=bs' hh
 obtain ⟨x3,hx3,hh⟩:=bs' hh
 obtain ⟨x4,hx4,hh⟩:=bs' hh
 obtain ⟨x5,hx5,hh⟩:=bs' hh
 obtain ⟨x6,hx6,hh⟩:=bs' hh
 obtain ⟨x7,hx7,hh⟩:=bs' hh
 cases hh
 refine sk' (s' rfl rfl (cq (Dw hx2) rfl (e' rfl (p' 1 rfl (cq (Js hx3) rfl (o' 3 rfl (C0.nf hC rfl (C0.s hC rfl (e' rfl (p' 1 rfl (cq (Kk hx4) rfl (e' rfl (p' 2 rfl ?_)))))))))))))
 refine cq (Ok hx5) rfl (e' rfl (sg' 16 rfl (a0' rfl (AG.c rfl rfl (fun _=>trivial) (fun _=>Ey hx6) (AG.c rfl rfl (fun _=>trivial) (fun _=>Tf hx7) (G' 3 rfl (a1' rfl (a2' rfl (pa' rfl (G' 3 rfl (a1' rfl (a2' rfl (pa' rfl ?_)))))))))))))
 exact a0' rfl (an' (n' (re' (rq rfl))))
def Ej (fu:Nat):Option (List K0):=
 some [(K0.mk [112,97,115,115,119,111,114,100] 2 64 (some 44) [115,101,99,114,101,116,32,112,105,110,58,32,105,110,116,91,48,46,46,60,65,62,93,59,10,112,117,98,108,105,99,32,103,117,101,115,115,58,32,105,110,116,91,48,46,46,60,65,62,93,59,10,98,101,103,105,110,32,111,117,116,112,117,116,32,112,105,110,32,61,61,32,103,117,101,115,115,59,32,101,110,100] (some 45)),(K0.mk [100,105,103,105,116,115] 1 4 (some 46) [115,101,99,114,101,116,32,112,105,110,58,32,97,114,114,97,121,32,60,97,62,32,111,102,32,105,110,116,91,48,46,46,60,66,62,93,59,10,112,117,98,108,105,99,32,103,117,101,115,115,58,32,97,114,114,97,121,32,60,97,62,32,111,102,32,105,110,116,91,48,46,46,60,66,62,93,59,10,118,97,114,32,105,58,32,105,110,116,91,48,46,46,60,97,62,93,59,10,118,97,114,32,111,107,58,32,98,111,111,108,32,61,32,116,114,117,101,59,10,98,101,103,105,110,32,119,104,105,108,101,32,111,107,32,38,38,32,105,32,60,32,60,97,62,32,108,105,109,105,116,32,60,97,62,32,123,32,105,102,32,112,105,110,91,105,93,32,61,61,32,103,117,101,115,115,91,105,93,32,123,32,105,32,61,32,105,32,43,32,49,59,32,125,32,101,108,115,101,32,123,32,111,107,32,61,32,102,97,108,115,101,59,32,125,32,125,32,111,117,116,112,117,116,32,111,107,59,32,101,110,100] (some 47)),(K0.mk [98,105,116,115] 1 8 (some 44) [115,101,99,114,101,116,32,115,58,32,97,114,114,97,121,32,60,97,62,32,111,102,32,98,111,111,108,59,10,98,101,103,105,110,32,102,111,114,32,105,32,61,32,48,32,116,111,32,60,65,62,32,123,32,111,117,116,112,117,116,32,115,91,105,93,59,32,125,32,101,110,100] (some 48)),(K0.mk [112,97,114,105,116,121] 2 64 (some 44) [115,101,99,114,101,116,32,115,58,32,105,110,116,91,48,46,46,60,65,62,93,59,10,98,101,103,105,110,32,111,117,116,112,117,116,32,115,32,37,32,50,59,32,101,110,100] (some 45)),(K0.mk [100,105,99,101] 1 3 (some 49) [115,101,99,114,101,116,32,100,58,32,97,114,114,97,121,32,60,97,62,32,111,102,32,105,110,116,91,49,46,46,60,98,62,93,59,10,118,97,114,32,116,58,32,105,110,116,91,48,46,46,60,84,62,93,59,10,98,101,103,105,110,32,102,111,114,32,105,32,61,32,48,32,116,111,32,60,65,62,32,123,32,116,32,61,32,116,32,43,32,100,91,105,93,59,32,125,32,111,117,116,112,117,116,32,116,59,32,101,110,100] (some 50)),(K0.mk [112,111,119,101,114] 1 6 (some 44) [115,101,99,114,101,116,32,101,58,32,97,114,114,97,121,32,60,97,62,32,111,102,32,98,111,111,108,59,10,118,97,114,32,120,58,32,105,110,116,91,48,46,46,49,50,93,32,61,32,49,59,10,98,101,103,105,110,32,102,111,114,32,105,32,61,32,48,32,116,111,32,60,65,62,32,123,32,120,32,61,32,120,32,42,32,120,32,37,32,49,51,59,32,105,102,32,101,91,105,93,32,123,32,120,32,61,32,120,32,42,32,50,32,37,32,49,51,59,32,125,32,125,32,101,110,100] (some 51)),(K0.mk [116,104,114,101,115,104,111,108,100] 2 64 (some 52) [115,101,99,114,101,116,32,115,58,32,105,110,116,91,48,46,46,60,65,62,93,59,10,98,101,103,105,110,32,111,117,116,112,117,116,32,115,32,62,61,32,60,98,62,59,32,101,110,100] (some 45)),(K0.mk [109,97,115,107,101,100] 1 16 (some 44) [115,101,99,114,101,116,32,115,58,32,105,110,116,91,48,46,46,60,65,62,93,59,10,114,97,110,100,111,109,32,114,58,32,105,110,116,91,48,46,46,60,65,62,93,59,10,98,101,103,105,110,32,111,117,116,112,117,116,32,40,115,32,43,32,114,41,32,37,32,60,97,62,59,32,101,110,100] (some 53)),(K0.mk [115,101,97,114,99,104] 1 64 (some 54) [115,101,99,114,101,116,32,115,58,32,105,110,116,91,48,46,46,60,65,62,93,59,10,118,97,114,32,105,58,32,105,110,116,91,48,46,46,60,97,62,93,59,10,98,101,103,105,110,32,119,104,105,108,101,32,105,32,60,32,115,32,108,105,109,105,116,32,60,97,62,32,123,32,105,32,61,32,105,32,43,32,49,59,32,125,32,115,101,116,116,108,101,32,60,78,62,59,32,101,110,100] (some 55))]
theorem Ew (fu:Nat):Le (Ej fu ) (D7 ):=by
 unfold Ej D7
 repeat (with_reducible first | exact Le.rfl | exact N0 _ | refine Le.bind ?_ (fun _=>?_) | refine Le.ite ?_ ?_ | (rename_i x; cases x))
def Qk (fu:Nat)(f:K0)(s:Str):Option Bool:=
 some (f.name == s)
theorem Fy (fu:Nat)(f:K0)(s:Str):Le (Qk fu f s) (Ce f s):=by
 unfold Qk Ce
 repeat (with_reducible first | exact Le.rfl | exact N0 _ | refine Le.bind ?_ (fun _=>?_) | refine Le.ite ?_ ?_ | (rename_i x; cases x))
def W2:Nat→(List K0)→Str→Int→Option Int
 | 0,_,_,_=>none
 | fu+1,s,s1,v8=>
  if (decide (v8 < ((s).length:Int)))=true then
   idx s v8>>=fun x1=>
   Qk fu x1 s1>>=fun x2=>
   if x2=true then
    some v8
   else
    W2 fu s s1 (IntKind.i64.wrap (v8+1))
  else
   some (-1)
theorem Cd (fu:Nat):(∀ (s:List K0) (s1:Str) (v8:Int),Le (W2 fu s s1 v8) (J1 s s1 v8)):=by
 induction fu with
 | zero=>exact fun _ _ _=>Le.none
 | succ fu ih=>
  have ih0:=ih
  refine fun s s1 v8=>?_
  ·rw [W2,J1]
   repeat (with_reducible first | exact Le.rfl | exact ih0 _ _ _ | exact Fy fu _ _ | exact N0 _ | refine Le.bind ?_ (fun _=>?_) | refine Le.ite ?_ ?_ | (rename_i x; cases x))
theorem Ld (fu:Nat)(s:List K0)(s1:Str)(v8:Int):Le (W2 fu s s1 v8) (J1 s s1 v8):=(Cd fu) s s1 v8
def X4 (fu:Nat)(s:List K0)(s1:Str):Option Int:=
 W2 fu s s1 0
theorem Ge (fu:Nat)(s:List K0)(s1:Str):Le (X4 fu s s1) (T2 s s1):=by
 unfold X4 T2
 repeat (with_reducible first | exact Le.rfl | exact Ld fu _ _ _ | exact N0 _ | refine Le.bind ?_ (fun _=>?_) | refine Le.ite ?_ ?_ | (rename_i x; cases x))
def Ln (fu:Nat)(a:Int):Option (Int×Int):=
 some (0,0)
theorem Q10 (fu:Nat)(a:Int):Le (Ln fu a) (Si a):=by
 unfold Ln Si
 repeat (with_reducible first | exact Le.rfl | exact N0 _ | refine Le.bind ?_ (fun _=>?_) | refine Le.ite ?_ ?_ | (rename_i x; cases x))
def Kh (fu:Nat)(a:Int):Option (Int×Int):=
 some (2,4)
theorem Lu (fu:Nat)(a:Int):Le (Kh fu a) (Ec a):=by
 unfold Kh Ec
 repeat (with_reducible first | exact Le.rfl | exact N0 _ | refine Le.bind ?_ (fun _=>?_) | refine Le.ite ?_ ?_ | (rename_i x; cases x))
def Lh (fu:Nat)(a:Int):Option (Int×Int):=
 some (2,6)
theorem Mu (fu:Nat)(a:Int):Le (Lh fu a) (Fc a):=by
 unfold Lh Fc
 repeat (with_reducible first | exact Le.rfl | exact N0 _ | refine Le.bind ?_ (fun _=>?_) | refine Le.ite ?_ ?_ | (rename_i x; cases x))
def Mh (fu:Nat)(a:Int):Option (Int×Int):=
 some (1,(IntKind.i64.wrap (a - 1)))
theorem Nu (fu:Nat)(a:Int):Le (Mh fu a) (Gc a):=by
 unfold Mh Gc
 repeat (with_reducible first | exact Le.rfl | exact N0 _ | refine Le.bind ?_ (fun _=>?_) | refine Le.ite ?_ ?_ | (rename_i x; cases x))
def Nh (fu:Nat)(a:Int):Option (Int×Int):=
 some (1,(min a 8))
theorem Ou (fu:Nat)(a:Int):Le (Nh fu a) (Hc a):=by
 unfold Nh Hc
 repeat (with_reducible first | exact Le.rfl | exact N0 _ | refine Le.bind ?_ (fun _=>?_) | refine Le.ite ?_ ?_ | (rename_i x; cases x))
def N11 (fu:Nat)(f:Option Nat)(a0:Int):Option (Int×Int):=
 if (f == (some 44))=true then
  Ln fu a0>>=fun x1=>
  some x1
 else
  if (f == (some 46))=true then
   Kh fu a0>>=fun x1=>
   some x1
  else
   if (f == (some 49))=true then
    Lh fu a0>>=fun x1=>
    some x1
   else
    if (f == (some 52))=true then
     Mh fu a0>>=fun x1=>
     some x1
    else
     if (f == (some 54))=true then
      Nh fu a0>>=fun x1=>
      some x1
     else
      none
theorem T18 (fu:Nat)(f:Option Nat)(a0:Int):Le (N11 fu f a0) (Do f a0):=by
 unfold N11 Do
 repeat (with_reducible first | exact Le.rfl | exact Q10 fu _ | exact Lu fu _ | exact Mu fu _ | exact Nu fu _ | exact Ou fu _ | exact N0 _ | refine Le.bind ?_ (fun _=>?_) | refine Le.ite ?_ ?_ | (rename_i x; cases x))
def Mj (fu:Nat)(name:Str)(a:Int)(b:Int):Option (K0×Int):=
 Ej fu>>=fun x1=>
 X4 fu x1 name>>=fun x2=>
 if (decide (x2 < 0))=true then
  some ((K0.mk [] 0 0 none [] none),7)
 else
  idx x1 x2>>=fun x3=>
  if (bif (decide (a < x3.low)) then true else (decide (a > x3.high)))=true then
   some ((K0.mk [] 0 0 none [] none),3)
  else
   N11 fu x3.second a>>=fun x4=>
   if (bif (decide (b < x4.1)) then true else (decide (b > x4.2)))=true then
    some ((K0.mk [] 0 0 none [] none),3)
   else
    some (x3,0)
theorem Ks (fu:Nat)(name:Str)(a:Int)(b:Int):Le (Mj fu name a b) (E7 name a b):=by
 unfold Mj E7
 repeat (with_reducible first | exact Le.rfl | exact Ew fu | exact Ge fu _ _ | exact T18 fu _ _ | exact N0 _ | refine Le.bind ?_ (fun _=>?_) | refine Le.ite ?_ ?_ | (rename_i x; cases x))
def Qp (fu:Nat)(a:Int)(b:Int):Option (Int×Int):=
 some (2,2)
theorem O11 (fu:Nat)(a:Int)(b:Int):Le (Qp fu a b) (Xj a b):=by
 unfold Qp Xj
 repeat (with_reducible first | exact Le.rfl | exact N0 _ | refine Le.bind ?_ (fun _=>?_) | refine Le.ite ?_ ?_ | (rename_i x; cases x))
def Oh (fu:Nat)(a:Int)(b:Int):Option (Int×Int):=
 some ((IntKind.i64.wrap (a+1)),2)
theorem Pu (fu:Nat)(a:Int)(b:Int):Le (Oh fu a b) (Ic a b):=by
 unfold Oh Ic
 repeat (with_reducible first | exact Le.rfl | exact N0 _ | refine Le.bind ?_ (fun _=>?_) | refine Le.ite ?_ ?_ | (rename_i x; cases x))
def Ph (fu:Nat)(a:Int)(b:Int):Option (Int×Int):=
 if (decide (0≤a))=true then
  if (decide (0≤a))=true then
   some ((IntKind.i64.wrap (1 * 2 ^ (min a.toNat 64))),(IntKind.i64.wrap (1 * 2 ^ (min a.toNat 64))))
  else none
 else none
theorem Qu (fu:Nat)(a:Int)(b:Int):Le (Ph fu a b) (Jc a b):=by
 unfold Ph Jc
 repeat (with_reducible first | exact Le.rfl | exact N0 _ | refine Le.bind ?_ (fun _=>?_) | refine Le.ite ?_ ?_ | (rename_i x; cases x))
def Mn (fu:Nat)(a:Int)(b:Int):Option (Int×Int):=
 some ((IntKind.i64.wrap ((IntKind.i64.wrap (a * (IntKind.i64.wrap (b - 1))))+1)),(IntKind.i64.wrap ((IntKind.i64.wrap (a * (IntKind.i64.wrap (b - 1))))+1)))
theorem R10 (fu:Nat)(a:Int)(b:Int):Le (Mn fu a b) (Ti a b):=by
 unfold Mn Ti
 repeat (with_reducible first | exact Le.rfl | exact N0 _ | refine Le.bind ?_ (fun _=>?_) | refine Le.ite ?_ ?_ | (rename_i x; cases x))
def Qh (fu:Nat)(a:Int)(b:Int):Option (Int×Int):=
 some ((IntKind.i64.wrap (a+1)),1)
theorem Ru (fu:Nat)(a:Int)(b:Int):Le (Qh fu a b) (Kc a b):=by
 unfold Qh Kc
 repeat (with_reducible first | exact Le.rfl | exact N0 _ | refine Le.bind ?_ (fun _=>?_) | refine Le.ite ?_ ?_ | (rename_i x; cases x))
def Rh (fu:Nat)(a:Int)(b:Int):Option (Int×Int):=
 some (a,a)
theorem Su (fu:Nat)(a:Int)(b:Int):Le (Rh fu a b) (Lc a b):=by
 unfold Rh Lc
 repeat (with_reducible first | exact Le.rfl | exact N0 _ | refine Le.bind ?_ (fun _=>?_) | refine Le.ite ?_ ?_ | (rename_i x; cases x))
def Sh (fu:Nat)(a:Int)(b:Int):Option (Int×Int):=
 some (b,1)
theorem Tu (fu:Nat)(a:Int)(b:Int):Le (Sh fu a b) (Mc a b):=by
 unfold Sh Mc
 repeat (with_reducible first | exact Le.rfl | exact N0 _ | refine Le.bind ?_ (fun _=>?_) | refine Le.ite ?_ ?_ | (rename_i x; cases x))
def P11 (fu:Nat)(f:Option Nat)(a0:Int)(a1:Int):Option (Int×Int):=
 if (f == (some 45))=true then
  Qp fu a0 a1>>=fun x1=>
  some x1
 else
  if (f == (some 47))=true then
   Oh fu a0 a1>>=fun x1=>
   some x1
  else
   if (f == (some 48))=true then
    Ph fu a0 a1>>=fun x1=>
    some x1
   else
    if (f == (some 50))=true then
     Mn fu a0 a1>>=fun x1=>
     some x1
    else
     if (f == (some 51))=true then
      Qh fu a0 a1>>=fun x1=>
      some x1
     else
      if (f == (some 53))=true then
       Rh fu a0 a1>>=fun x1=>
       some x1
      else
       if (f == (some 55))=true then
        Sh fu a0 a1>>=fun x1=>
        some x1
       else
        none
theorem U18 (fu:Nat)(f:Option Nat)(a0:Int)(a1:Int):Le (P11 fu f a0 a1) (Gv f a0 a1):=by
 unfold P11 Gv
 repeat (with_reducible first | exact Le.rfl | exact O11 fu _ _ | exact Pu fu _ _ | exact Qu fu _ _ | exact R10 fu _ _ | exact Ru fu _ _ | exact Su fu _ _ | exact Tu fu _ _ | exact N0 _ | refine Le.bind ?_ (fun _=>?_) | refine Le.ite ?_ ?_ | (rename_i x; cases x))
def Li (fu:Nat)(family:Str)(a:Int)(b:Int):Option (Int×Int×Int):=
 Mj fu family a b>>=fun x1=>
 if (x1.2 != 0)=true then
  some (0,0,x1.2)
 else
  P11 fu x1.1.known a b>>=fun x2=>
  some (x2.1,x2.2,0)
theorem Bz (fu:Nat)(family:Str)(a:Int)(b:Int):Le (Li fu family a b) (B5 family a b):=by
 unfold Li B5
 repeat (with_reducible first | exact Le.rfl | exact Ks fu _ _ _ | exact U18 fu _ _ _ | exact N0 _ | refine Le.bind ?_ (fun _=>?_) | refine Le.ite ?_ ?_ | (rename_i x; cases x))
def Vc:Nat→Int→Int→(List Str)→Int→Option Str
 | 0,_,_,_,_=>none
 | fu+1,a,b,l,j=>
  if (decide (j≤b))=true then
   if (decide (b≠0))=true then
    Ri (IntKind.i64.wrap ((IntKind.i64.wrap (4 * (IntKind.i64.wrap (Int.tdiv (IntKind.i64.wrap ((IntKind.i64.wrap ((IntKind.i64.wrap (j * a))+b)) - 1)) b)))) - 2))>>=fun x1=>
    if (decide ((l.length+1) * 17≤140737488355328))=true then
     Vc fu a b (l++[x1]) (IntKind.i64.wrap (j+1))
    else none
   else none
  else
   C14 l [44,32]>>=fun x2=>
   some x2
theorem Mv (fu:Nat):(∀ (a:Int) (b:Int) (l:List Str) (j:Int),Le (Vc fu a b l j) (F7 a b l j)):=by
 induction fu with
 | zero=>exact fun _ _ _ _=>Le.none
 | succ fu ih=>
  have ih0:=ih
  refine fun a b l j=>?_
  ·rw [Vc,F7]
   repeat (with_reducible first | exact Le.rfl | exact ih0 _ _ _ _ | exact N0 _ | refine Le.bind ?_ (fun _=>?_) | refine Le.ite ?_ ?_ | (rename_i x; cases x))
theorem Fw (fu:Nat)(a:Int)(b:Int)(l:List Str)(j:Int):Le (Vc fu a b l j) (F7 a b l j):=(Mv fu) a b l j
def Cm (fu:Nat)(a:Int)(b:Int):Option Str:=
 Vc fu a b [] 1
theorem Cz (fu:Nat)(a:Int)(b:Int):Le (Cm fu a b) (Ai a b):=by
 unfold Cm Ai
 repeat (with_reducible first | exact Le.rfl | exact Fw fu _ _ _ _ | exact N0 _ | refine Le.bind ?_ (fun _=>?_) | refine Le.ite ?_ ?_ | (rename_i x; cases x))
def Oe (fu:Nat)(c:Int):Option Bool:=
 some (bif (decide (c≥97)) then (decide (c≤122)) else false)
theorem Sj (fu:Nat)(c:Int):Le (Oe fu c) (Hb c):=by
 unfold Oe Hb
 repeat (with_reducible first | exact Le.rfl | exact N0 _ | refine Le.bind ?_ (fun _=>?_) | refine Le.ite ?_ ?_ | (rename_i x; cases x))
def Hd (fu:Nat)(c:Int):Option Bool:=
 some (bif (decide (c≥48)) then (decide (c≤57)) else false)
theorem Th (fu:Nat)(c:Int):Le (Hd fu c) (Na c):=by
 unfold Hd Na
 repeat (with_reducible first | exact Le.rfl | exact N0 _ | refine Le.bind ?_ (fun _=>?_) | refine Le.ite ?_ ?_ | (rename_i x; cases x))
def Lg:Nat→Str→Int→Option Int
 | 0,_,_=>none
 | fu+1,s,i1=>
  (if (decide (i1 < ((s).length:Int)))=true then idx s i1 else some default)>>=fun x1=>
  (if (decide (i1 < ((s).length:Int)))=true then Oe fu (x1.toNat:Int) else some default)>>=fun x2=>
  (if ((decide (i1 < ((s).length:Int)))&&(!x2))=true then idx s i1 else some default)>>=fun x3=>
  (if ((decide (i1 < ((s).length:Int)))&&(!x2))=true then Hd fu (x3.toNat:Int) else some default)>>=fun x4=>
  if (bif (decide (i1 < ((s).length:Int))) then (bif x2 then true else x4) else false)=true then
   Lg fu s (IntKind.i64.wrap (i1+1))
  else
   some i1
theorem Dz (fu:Nat):(∀ (s:Str) (i1:Int),Le (Lg fu s i1) (Nc s i1)):=by
 induction fu with
 | zero=>exact fun _ _=>Le.none
 | succ fu ih=>
  have ih0:=ih
  refine fun s i1=>?_
  ·rw [Lg,Nc]
   repeat (with_reducible first | exact Le.rfl | exact ih0 _ _ | exact Sj fu _ | exact Th fu _ | exact N0 _ | refine Le.bind ?_ (fun _=>?_) | refine Le.ite ?_ ?_ | (rename_i x; cases x))
theorem S10 (fu:Nat)(s:Str)(i1:Int):Le (Lg fu s i1) (Nc s i1):=(Dz fu) s i1
def Eo (fu:Nat)(s:Str)(i:Int):Option Int:=
 Lg fu s i
theorem F14 (fu:Nat)(s:Str)(i:Int):Le (Eo fu s i) (Al s i):=by
 unfold Eo Al
 repeat (with_reducible first | exact Le.rfl | exact S10 fu _ _ | exact N0 _ | refine Le.bind ?_ (fun _=>?_) | refine Le.ite ?_ ?_ | (rename_i x; cases x))
def Uh (fu:Nat)(word:Str):Option Bool:=
 (if (!(word == []))=true then Ul word [32] else some default)>>=fun x1=>
 if (!(bif (!(word == [])) then (!x1) else false)||(decide (1+word.length≤maxLen)))=true then
  if (!(bif (!(word == [])) then (!x1) else false)||(decide (([32]++word).length+1≤maxLen)))=true then
   (if (bif (!(word == [])) then (!x1) else false)=true then Ul [32,116,121,112,101,32,115,101,99,114,101,116,32,112,117,98,108,105,99,32,114,97,110,100,111,109,32,118,97,114,32,104,97,116,99,104,32,102,117,110,99,32,114,101,116,117,114,110,32,98,101,103,105,110,32,101,110,100,32,98,111,111,108,32,105,110,116,32,97,114,114,97,121,32,111,102,32,114,101,99,111,114,100,32,116,114,117,101,32,102,97,108,115,101,32,99,97,108,108,32,114,101,108,101,97,115,101,32,111,117,116,112,117,116,32,119,97,105,116,32,105,102,32,101,108,115,101,32,119,104,105,108,101,32,108,105,109,105,116,32,102,111,114,32,116,111,32,115,101,116,116,108,101,32,109,105,110,32,109,97,120,32] (([32]++word)++[32]) else some default)>>=fun x2=>
   some (bif (bif (!(word == [])) then (!x1) else false) then x2 else false)
  else none
 else none
theorem Zp (fu:Nat)(word:Str):Le (Uh fu word) (Ee word):=by
 unfold Uh Ee
 repeat (with_reducible first | exact Le.rfl | exact N0 _ | refine Le.bind ?_ (fun _=>?_) | refine Le.ite ?_ ?_ | (rename_i x; cases x))
def Pd:Nat→Str→Int→Int→Option Int
 | 0,_,_,_=>none
 | fu+1,s,n,v7=>
  if (decide (v7 < ((s).length:Int)))=true then
   idx s v7>>=fun x1=>
   Hd fu (x1.toNat:Int)>>=fun x2=>
   if (!x2)=true then
    some 6
   else
    idx s v7>>=fun x3=>
    Pd fu s (min (IntKind.i64.wrap ((IntKind.i64.wrap (10 * n))+(IntKind.i64.wrap (IntKind.u8.wrap ((x3.toNat:Int) - 48))))) 1048577) (IntKind.i64.wrap (v7+1))
  else
   idx s 0>>=fun x4=>
   if (bif ((x4.toNat:Int) == 48) then (decide (((s).length:Int) > 1)) else false)=true then
    some 6
   else
    if (decide (n > 1048576))=true then
     some 3
    else
     some 0
theorem Gw (fu:Nat):(∀ (s:Str) (n:Int) (v7:Int),Le (Pd fu s n v7) (V7 s n v7)):=by
 induction fu with
 | zero=>exact fun _ _ _=>Le.none
 | succ fu ih=>
  have ih0:=ih
  refine fun s n v7=>?_
  ·rw [Pd,V7]
   repeat (with_reducible first | exact Le.rfl | exact ih0 _ _ _ | exact Th fu _ | exact N0 _ | refine Le.bind ?_ (fun _=>?_) | refine Le.ite ?_ ?_ | (rename_i x; cases x))
theorem Jx (fu:Nat)(s:Str)(n:Int)(v7:Int):Le (Pd fu s n v7) (V7 s n v7):=(Gw fu) s n v7
def Nn (fu:Nat)(s:Str):Option Int:=
 Pd fu s 0 0
theorem T10 (fu:Nat)(s:Str):Le (Nn fu s) (Ui s):=by
 unfold Nn Ui
 repeat (with_reducible first | exact Le.rfl | exact Jx fu _ _ _ | exact N0 _ | refine Le.bind ?_ (fun _=>?_) | refine Le.ite ?_ ?_ | (rename_i x; cases x))
def Mi (fu:Nat)(s:Str):Option Str:=
 idx s 0>>=fun x3=>
 Qs [59,58,44,46,61,43,45,42,47,37,60,62,33,63,40,41,91,93,123,125] (x3.toNat:Int)>>=fun x4=>
 if (decide (x4≥0))=true then
  slc s 0 1>>=fun x5=>
  some x5
 else
  some []
theorem Ir (fu:Nat)(s:Str):Le (Mi fu s) (Ff s):=by
 unfold Mi Ff
 repeat (with_reducible first | exact Le.rfl | exact N0 _ | refine Le.bind ?_ (fun _=>?_) | refine Le.ite ?_ ?_ | (rename_i x; cases x))
def Q6 (fu:Nat)(s:Str)(v8:Bool):Option Str:=
 if v8=true then
  slc s 0 2>>=fun x2=>
  some x2
 else
  Mi fu s
theorem Ez (fu:Nat)(s:Str)(v8:Bool):Le (Q6 fu s v8) (Y5 s v8):=by
 unfold Q6 Y5
 repeat (with_reducible first | exact Le.rfl | exact Ir fu _ | exact N0 _ | refine Le.bind ?_ (fun _=>?_) | refine Le.ite ?_ ?_ | (rename_i x; cases x))
def Jr (fu:Nat)(s:Str):Option Str:=
 if (decide (((s).length:Int)≥2))=true then
  slc s 0 2>>=fun x1=>
  if (x1 == [46,46])=true then
   Q6 fu s (x1 == [46,46])
  else
   if (x1 == [61,61])=true then
    Q6 fu s (x1 == [61,61])
   else
    if (x1 == [33,61])=true then
     Q6 fu s (x1 == [33,61])
    else
     if (x1 == [60,61])=true then
      Q6 fu s (x1 == [60,61])
     else
      if (x1 == [62,61])=true then
       Q6 fu s (x1 == [62,61])
      else
       if (x1 == [38,38])=true then
        Q6 fu s (x1 == [38,38])
       else
        Q6 fu s (x1 == [124,124])
 else
  Mi fu s
theorem N12 (fu:Nat)(s:Str):Le (Jr fu s) (Wl s):=by
 unfold Jr Wl
 repeat (with_reducible first | exact Le.rfl | exact Ez fu _ _ | exact Ir fu _ | exact N0 _ | refine Le.bind ?_ (fun _=>?_) | refine Le.ite ?_ ?_ | (rename_i x; cases x))
def Kr (fu:Nat)(s:Str)(i:Int):Option (X0×Int):=
 idx s i>>=fun x1=>
 Oe fu (x1.toNat:Int)>>=fun x2=>
 if x2=true then
  Eo fu s i>>=fun x3=>
  slc s i x3>>=fun x4=>
  Uh fu x4>>=fun x5=>
  if x5=true then
   some ((X0.mk 2 x4 i),0)
  else
   if (decide (((x4).length:Int) > 12))=true then
    some ((X0.mk 0 x4 i),7)
   else
    some ((X0.mk 0 x4 i),0)
 else
  Hd fu (x1.toNat:Int)>>=fun x6=>
  if x6=true then
   Eo fu s i>>=fun x7=>
   slc s i x7>>=fun x8=>
   Nn fu x8>>=fun x9=>
   some ((X0.mk 1 x8 i),x9)
  else
   slc s i ((s).length:Int)>>=fun x10=>
   Jr fu x10>>=fun x11=>
   if (x11 == [])=true then
    some ((X0.mk 3 x11 i),6)
   else
    some ((X0.mk 3 x11 i),0)
theorem Rp (fu:Nat)(s:Str)(i:Int):Le (Kr fu s i) (Xl s i):=by
 unfold Kr Xl
 repeat (with_reducible first | exact Le.rfl | exact Sj fu _ | exact F14 fu _ _ | exact Zp fu _ | exact Th fu _ | exact T10 fu _ | exact N12 fu _ | exact N0 _ | refine Le.bind ?_ (fun _=>?_) | refine Le.ite ?_ ?_ | (rename_i x; cases x))
mutual
def Jb:Nat→Str→(List X0)→Int→Option (List X0×Int×Int)
 | 0,_,_,_=>none
 | fu+1,s,out,i=>
  if (decide (i < ((s).length:Int)))=true then
   idx s i>>=fun x1=>
   if ((x1.toNat:Int) == 32)=true then
    Mg fu s out i x1 ((x1.toNat:Int) == 32)
   else
    if ((x1.toNat:Int) == 9)=true then
     Mg fu s out i x1 ((x1.toNat:Int) == 9)
    else
     Mg fu s out i x1 ((x1.toNat:Int) == 10)
  else
   some (out,0,0)
def Mg:Nat→Str→(List X0)→Int→UInt8→Bool→Option (List X0×Int×Int)
 | 0,_,_,_,_,_=>none
 | fu+1,s,out1,i1,x1,v19=>
  if v19=true then
   Jb fu s out1 (IntKind.i64.wrap (i1+1))
  else
   if ((x1.toNat:Int) == 35)=true then
    Nj fu s out1 i1
   else
    Kr fu s i1>>=fun x2=>
    if (x2.2 != 0)=true then
     some ([],i1,x2.2)
    else
     if (decide ((out1.length+1) * 33≤140737488355328))=true then
      Jb fu s (out1++[x2.1]) (IntKind.i64.wrap (i1+((x2.1.Text).length:Int)))
     else none
def Nj:Nat→Str→(List X0)→Int→Option (List X0×Int×Int)
 | 0,_,_,_=>none
 | fu+1,s,out2,i2=>
  (if (decide (i2 < ((s).length:Int)))=true then idx s i2 else some default)>>=fun x3=>
  if (bif (decide (i2 < ((s).length:Int))) then ((x3.toNat:Int) != 10) else false)=true then
   Nj fu s out2 (IntKind.i64.wrap (i2+1))
  else
   Jb fu s out2 i2
end
theorem Fz (fu:Nat):(∀ (s:Str) (out:List X0) (i:Int),Le (Jb fu s out i) (G8 s out i))∧(∀ (s:Str) (out1:List X0) (i1:Int) (x1:UInt8) (v19:Bool),Le (Mg fu s out1 i1 x1 v19) (Bg s out1 i1 x1 v19))∧(∀ (s:Str) (out2:List X0) (i2:Int),Le (Nj fu s out2 i2) (Vi s out2 i2)):=by
 induction fu with
 | zero=>exact ⟨fun _ _ _=>Le.none,fun _ _ _ _ _=>Le.none,fun _ _ _=>Le.none⟩
 | succ fu ih=>
  obtain ⟨ih0,ih1,ih2⟩:=ih
  refine ⟨fun s out i=>?_,fun s out1 i1 x1 v19=>?_,fun s out2 i2=>?_⟩
  ·rw [Jb,G8]
   repeat (with_reducible first | exact Le.rfl | exact ih0 _ _ _ | exact ih1 _ _ _ _ _ | exact ih2 _ _ _ | exact Rp fu _ _ | exact N0 _ | refine Le.bind ?_ (fun _=>?_) | refine Le.ite ?_ ?_ | (rename_i x; cases x))
  ·rw [Mg,Bg]
   repeat (with_reducible first | exact Le.rfl | exact ih0 _ _ _ | exact ih1 _ _ _ _ _ | exact ih2 _ _ _ | exact Rp fu _ _ | exact N0 _ | refine Le.bind ?_ (fun _=>?_) | refine Le.ite ?_ ?_ | (rename_i x; cases x))
  ·rw [Nj,Vi]
   repeat (with_reducible first | exact Le.rfl | exact ih0 _ _ _ | exact ih1 _ _ _ _ _ | exact ih2 _ _ _ | exact Rp fu _ _ | exact N0 _ | refine Le.bind ?_ (fun _=>?_) | refine Le.ite ?_ ?_ | (rename_i x; cases x))
theorem U10 (fu:Nat)(s:Str)(out:List X0)(i:Int):Le (Jb fu s out i) (G8 s out i):=(Fz fu).1 s out i
def Dt (fu:Nat)(s:Str):Option (List X0×Int×Int):=
 if (decide (((s).length:Int) > 8192))=true then
  some ([],0,5)
 else
  Jb fu s [] 0
theorem G14 (fu:Nat)(s:Str):Le (Dt fu s) (Xo s):=by
 unfold Dt Xo
 repeat (with_reducible first | exact Le.rfl | exact U10 fu _ _ _ | exact N0 _ | refine Le.bind ?_ (fun _=>?_) | refine Le.ite ?_ ?_ | (rename_i x; cases x))
def Mf (fu:Nat)(text:Str)(parserParser:A0):Option Bool:=
 if (decide (parserParser.next≥((parserParser.tokens).length:Int)))=true then
  some false
 else
  idx parserParser.tokens parserParser.next>>=fun x1=>
  some (bif (x1.Text == text) then (bif (x1.Kind == 2) then true else (x1.Kind == 3)) else false)
theorem Um (fu:Nat)(text:Str)(parserParser:A0):Le (Mf fu text parserParser) (Ib text parserParser):=by
 unfold Mf Ib
 repeat (with_reducible first | exact Le.rfl | exact N0 _ | refine Le.bind ?_ (fun _=>?_) | refine Le.ite ?_ ?_ | (rename_i x; cases x))
def P0 (fu:Nat)(text:Str)(parserParser:A0):Option (Bool×A0):=
 Mf fu text parserParser>>=fun x1=>
 if (!x1)=true then
  some (false,parserParser)
 else
  some (true,(A0.mk parserParser.tokens (IntKind.i64.wrap (parserParser.next+1)) parserParser.endV))
theorem Y0 (fu:Nat)(text:Str)(parserParser:A0):Le (P0 fu text parserParser) (S0 text parserParser):=by
 unfold P0 S0
 repeat (with_reducible first | exact Le.rfl | exact Um fu _ _ | exact N0 _ | refine Le.bind ?_ (fun _=>?_) | refine Le.ite ?_ ?_ | (rename_i x; cases x))
def Y9 (fu:Nat)(parserParser:A0):Option (Pn Unit):=
 if (decide (parserParser.next < ((parserParser.tokens).length:Int)))=true then
  idx parserParser.tokens parserParser.next>>=fun x1=>
  some (.pn x1.At)
 else
  some (.pn parserParser.endV)
theorem Ng (fu:Nat)(parserParser:A0):Le (Y9 fu parserParser) (G7 parserParser):=by
 unfold Y9 G7
 repeat (with_reducible first | exact Le.rfl | exact N0 _ | refine Le.bind ?_ (fun _=>?_) | refine Le.ite ?_ ?_ | (rename_i x; cases x))
def Ra (fu:Nat)(parserParser:A0):Option (Pn (Str×A0)):=
 idx parserParser.tokens (IntKind.i64.wrap ((IntKind.i64.wrap (parserParser.next+1)) - 1))>>=fun x3=>
 some (.ok (x3.Text,(A0.mk parserParser.tokens (IntKind.i64.wrap (parserParser.next+1)) parserParser.endV)))
theorem Lr (fu:Nat)(parserParser:A0):Le (Ra fu parserParser) (T6 parserParser):=by
 unfold Ra T6
 repeat (with_reducible first | exact Le.rfl | exact N0 _ | refine Le.bind ?_ (fun _=>?_) | refine Le.ite ?_ ?_ | (rename_i x; cases x))
def Xd (fu:Nat)(k:Int)(parserParser:A0):Option (Pn (Str×A0)):=
 (if (!(decide (parserParser.next≥((parserParser.tokens).length:Int))))=true then idx parserParser.tokens parserParser.next else some default)>>=fun x1=>
 if (bif (decide (parserParser.next≥((parserParser.tokens).length:Int))) then true else (x1.Kind != k))=true then
  Y9 fu parserParser>>=fun x2=>match x2 with
  | .pn nn=>
  some (.pn nn)
  | .ok x2=>
  Ra fu parserParser
 else
  Ra fu parserParser
theorem Gl (fu:Nat)(k:Int)(parserParser:A0):Le (Xd fu k parserParser) (C9 k parserParser):=by
 unfold Xd C9
 repeat (with_reducible first | exact Le.rfl | exact Ng fu _ | exact Lr fu _ | exact N0 _ | refine Le.bind ?_ (fun _=>?_) | refine Le.ite ?_ ?_ | (rename_i x; cases x))
def R3 (fu:Nat)(parserParser:A0):Option (Pn (Str×A0)):=
 Xd fu 0 parserParser>>=fun x1=>match x1 with
 | .pn nn=>
 some (.pn nn)
 | .ok x1=>
 some (.ok (x1.1,x1.2))
theorem D1 (fu:Nat)(parserParser:A0):Le (R3 fu parserParser) (I3 parserParser):=by
 unfold R3 I3
 repeat (with_reducible first | exact Le.rfl | exact Gl fu _ _ | exact N0 _ | refine Le.bind ?_ (fun _=>?_) | refine Le.ite ?_ ?_ | (rename_i x; cases x))
def R0 (fu:Nat)(text:Str)(parserParser:A0):Option (Pn A0):=
 P0 fu text parserParser>>=fun x1=>
 if (!x1.1)=true then
  Y9 fu x1.2>>=fun x2=>match x2 with
  | .pn nn=>
  some (.pn nn)
  | .ok x2=>
  some (.ok x1.2)
 else
  some (.ok x1.2)
theorem Z0 (fu:Nat)(text:Str)(parserParser:A0):Le (R0 fu text parserParser) (U0 text parserParser):=by
 unfold R0 U0
 repeat (with_reducible first | exact Le.rfl | exact Y0 fu _ _ | exact Ng fu _ | exact N0 _ | refine Le.bind ?_ (fun _=>?_) | refine Le.ite ?_ ?_ | (rename_i x; cases x))
def R8 (fu:Nat)(parserParser:A0):Option (Pn (Int×A0)):=
 Xd fu 1 parserParser>>=fun x1=>match x1 with
 | .pn nn=>
 some (.pn nn)
 | .ok x1=>
 D14 x1.1>>=fun x2=>
 some (.ok (x2,x1.2))
theorem R1 (fu:Nat)(parserParser:A0):Le (R8 fu parserParser) (U5 parserParser):=by
 unfold R8 U5
 repeat (with_reducible first | exact Le.rfl | exact Gl fu _ _ | exact N0 _ | refine Le.bind ?_ (fun _=>?_) | refine Le.ite ?_ ?_ | (rename_i x; cases x))
def A3 (fu:Nat)(parserParser:A0):Option (Pn (Int×A0)):=
 P0 fu [45] parserParser>>=fun x1=>
 if x1.1=true then
  R8 fu x1.2>>=fun x2=>match x2 with
  | .pn nn=>
  some (.pn nn)
  | .ok x2=>
  some (.ok ((IntKind.i64.wrap (0 - x2.1)),x2.2))
 else
  R8 fu x1.2>>=fun x3=>match x3 with
  | .pn nn=>
  some (.pn nn)
  | .ok x3=>
  some (.ok (x3.1,x3.2))
theorem K4 (fu:Nat)(parserParser:A0):Le (A3 fu parserParser) (U2 parserParser):=by
 unfold A3 U2
 repeat (with_reducible first | exact Le.rfl | exact Y0 fu _ _ | exact R1 fu _ | exact N0 _ | refine Le.bind ?_ (fun _=>?_) | refine Le.ite ?_ ?_ | (rename_i x; cases x))
mutual
def K5:Nat→A0→Option (Pn (L0×A0))
 | 0,_=>none
 | fu+1,parserParser=>
  P0 fu [98,111,111,108] parserParser>>=fun x1=>
  if x1.1=true then
   some (.ok ((L0.mk 0 0 0 0 [] [] []),x1.2))
  else
   P0 fu [105,110,116] x1.2>>=fun x2=>
   if x2.1=true then
    R0 fu [91] x2.2>>=fun x3=>match x3 with
    | .pn nn=>
    some (.pn nn)
    | .ok x3=>
    A3 fu x3>>=fun x4=>match x4 with
    | .pn nn=>
    some (.pn nn)
    | .ok x4=>
    R0 fu [46,46] x4.2>>=fun x5=>match x5 with
    | .pn nn=>
    some (.pn nn)
    | .ok x5=>
    A3 fu x5>>=fun x6=>match x6 with
    | .pn nn=>
    some (.pn nn)
    | .ok x6=>
    R0 fu [93] x6.2>>=fun x7=>match x7 with
    | .pn nn=>
    some (.pn nn)
    | .ok x7=>
    some (.ok ((L0.mk 1 x4.1 x6.1 0 [] [] []),x7))
   else
    P0 fu [97,114,114,97,121] x2.2>>=fun x8=>
    if x8.1=true then
     A3 fu x8.2>>=fun x9=>match x9 with
     | .pn nn=>
     some (.pn nn)
     | .ok x9=>
     R0 fu [111,102] x9.2>>=fun x10=>match x10 with
     | .pn nn=>
     some (.pn nn)
     | .ok x10=>
     K5 fu x10>>=fun x16=>match x16 with
     | .pn nn=>
     some (.pn nn)
     | .ok x16=>
     some (.ok ((L0.mk 2 0 0 x9.1 [] [] [x16.1]),x16.2))
    else
     P0 fu [114,101,99,111,114,100] x8.2>>=fun x11=>
     if x11.1=true then
      R0 fu [123] x11.2>>=fun x12=>match x12 with
      | .pn nn=>
      some (.pn nn)
      | .ok x12=>
      Vb fu x12 [] []
     else
      R3 fu x11.2>>=fun x13=>match x13 with
      | .pn nn=>
      some (.pn nn)
      | .ok x13=>
      some (.ok ((L0.mk 4 0 0 0 x13.1 [] []),x13.2))
def Vb:Nat→A0→(List Str)→(List L0)→Option (Pn (L0×A0))
 | 0,_,_,_=>none
 | fu+1,o0,o2_Names,o2_Of=>
  R3 fu o0>>=fun x14=>match x14 with
  | .pn nn=>
  some (.pn nn)
  | .ok x14=>
  R0 fu [58] x14.2>>=fun x15=>match x15 with
  | .pn nn=>
  some (.pn nn)
  | .ok x15=>
  K5 fu x15>>=fun x17=>match x17 with
  | .pn nn=>
  some (.pn nn)
  | .ok x17=>
  if (decide ((o2_Names.length+1) * 17≤140737488355328))=true then
   if (decide ((o2_Of.length+1) * 97≤140737488355328))=true then
    P0 fu [44] x17.2>>=fun x18=>
    if (!x18.1)=true then
     R0 fu [125] x18.2>>=fun x19=>match x19 with
     | .pn nn=>
     some (.pn nn)
     | .ok x19=>
     some (.ok ((L0.mk 3 0 0 0 [] (o2_Names++[x14.1]) (o2_Of++[x17.1])),x19))
    else
     Vb fu x18.2 (o2_Names++[x14.1]) (o2_Of++[x17.1])
   else none
  else none
end
theorem Uu (fu:Nat):(∀ (parserParser:A0),Le (K5 fu parserParser) (U4 parserParser))∧(∀ (o0:A0) (o2_Names:List Str) (o2_Of:List L0),Le (Vb fu o0 o2_Names o2_Of) (S9 o0 o2_Names o2_Of)):=by
 induction fu with
 | zero=>exact ⟨fun _=>Le.none,fun _ _ _=>Le.none⟩
 | succ fu ih=>
  obtain ⟨ih0,ih1⟩:=ih
  refine ⟨fun parserParser=>?_,fun o0 o2_Names o2_Of=>?_⟩
  ·rw [K5,U4]
   repeat (with_reducible first | exact Le.rfl | exact ih0 _ | exact ih1 _ _ _ | exact Y0 fu _ _ | exact Z0 fu _ _ | exact K4 fu _ | exact D1 fu _ | exact N0 _ | refine Le.bind ?_ (fun _=>?_) | refine Le.ite ?_ ?_ | (rename_i x; cases x))
  ·rw [Vb,S9]
   repeat (with_reducible first | exact Le.rfl | exact ih0 _ | exact ih1 _ _ _ | exact Y0 fu _ _ | exact Z0 fu _ _ | exact K4 fu _ | exact D1 fu _ | exact N0 _ | refine Le.bind ?_ (fun _=>?_) | refine Le.ite ?_ ?_ | (rename_i x; cases x))
theorem Vh (fu:Nat)(parserParser:A0):Le (K5 fu parserParser) (U4 parserParser):=(Uu fu).1 parserParser
def Q4 (fu:Nat)(kind:Int)(parserParser:A0):Option (Pn (E0×A0)):=
 R3 fu parserParser>>=fun x1=>match x1 with
 | .pn nn=>
 some (.pn nn)
 | .ok x1=>
 R0 fu [58] x1.2>>=fun x2=>match x2 with
 | .pn nn=>
 some (.pn nn)
 | .ok x2=>
 K5 fu x2>>=fun x3=>match x3 with
 | .pn nn=>
 some (.pn nn)
 | .ok x3=>
 some (.ok ((E0.mk kind x1.1 x3.1 0 (B0.mk 0 0 [] []) [] [] []),x3.2))
theorem Wb (fu:Nat)(kind:Int)(parserParser:A0):Le (Q4 fu kind parserParser) (A4 kind parserParser):=by
 unfold Q4 A4
 repeat (with_reducible first | exact Le.rfl | exact D1 fu _ | exact Z0 fu _ _ | exact Vh fu _ | exact N0 _ | refine Le.bind ?_ (fun _=>?_) | refine Le.ite ?_ ?_ | (rename_i x; cases x))
def Z9 (fu:Nat)(parserParser:A0):Option (Pn (E0×A0)):=
 Q4 fu 4 parserParser>>=fun x1=>match x1 with
 | .pn nn=>
 some (.pn nn)
 | .ok x1=>
 P0 fu [61] x1.2>>=fun x2=>
 if x2.1=true then
  P0 fu [116,114,117,101] x2.2>>=fun x3=>
  if x3.1=true then
   R0 fu [59] x3.2>>=fun x4=>match x4 with
   | .pn nn=>
   some (.pn nn)
   | .ok x4=>
   some (.ok ((E0.mk x1.1.Kind x1.1.Name x1.1.TypeV 1 x1.1.Value x1.1.Params x1.1.Vars x1.1.Body),x4))
  else
   P0 fu [102,97,108,115,101] x3.2>>=fun x5=>
   if x5.1=true then
    R0 fu [59] x5.2>>=fun x4=>match x4 with
    | .pn nn=>
    some (.pn nn)
    | .ok x4=>
    some (.ok (x1.1,x4))
   else
    A3 fu x5.2>>=fun x6=>match x6 with
    | .pn nn=>
    some (.pn nn)
    | .ok x6=>
    R0 fu [59] x6.2>>=fun x4=>match x4 with
    | .pn nn=>
    some (.pn nn)
    | .ok x4=>
    some (.ok ((E0.mk x1.1.Kind x1.1.Name x1.1.TypeV x6.1 x1.1.Value x1.1.Params x1.1.Vars x1.1.Body),x4))
 else
  R0 fu [59] x2.2>>=fun x4=>match x4 with
  | .pn nn=>
  some (.pn nn)
  | .ok x4=>
  some (.ok (x1.1,x4))
theorem Ni (fu:Nat)(parserParser:A0):Le (Z9 fu parserParser) (D6 parserParser):=by
 unfold Z9 D6
 repeat (with_reducible first | exact Le.rfl | exact Wb fu _ _ | exact Y0 fu _ _ | exact Z0 fu _ _ | exact K4 fu _ | exact N0 _ | refine Le.bind ?_ (fun _=>?_) | refine Le.ite ?_ ?_ | (rename_i x; cases x))
def S8 (fu:Nat)(parserParser:A0):Option Bool:=
 (if (decide (parserParser.next < ((parserParser.tokens).length:Int)))=true then idx parserParser.tokens parserParser.next else some default)>>=fun x1=>
 some (bif (decide (parserParser.next < ((parserParser.tokens).length:Int))) then (x1.Kind == 0) else false)
theorem I1 (fu:Nat)(parserParser:A0):Le (S8 fu parserParser) (V5 parserParser):=by
 unfold S8 V5
 repeat (with_reducible first | exact Le.rfl | exact N0 _ | refine Le.bind ?_ (fun _=>?_) | refine Le.ite ?_ ?_ | (rename_i x; cases x))
def Yd (fu:Nat)(parserParser:A0):Option (Int×Bool×A0):=
 P0 fu [42] parserParser>>=fun x1=>
 if x1.1=true then
  some (10,true,x1.2)
 else
  P0 fu [47] x1.2>>=fun x2=>
  if x2.1=true then
   some (11,true,x2.2)
  else
   P0 fu [37] x2.2>>=fun x3=>
   some (12,x3.1,x3.2)
theorem Q1 (fu:Nat)(parserParser:A0):Le (Yd fu parserParser) (U7 parserParser):=by
 unfold Yd U7
 repeat (with_reducible first | exact Le.rfl | exact Y0 fu _ _ | exact N0 _ | refine Le.bind ?_ (fun _=>?_) | refine Le.ite ?_ ?_ | (rename_i x; cases x))
def Og (fu:Nat)(parserParser:A0):Option (Int×Bool×A0):=
 P0 fu [43] parserParser>>=fun x1=>
 if x1.1=true then
  some (8,true,x1.2)
 else
  P0 fu [45] x1.2>>=fun x2=>
  some (9,x2.1,x2.2)
theorem X1 (fu:Nat)(parserParser:A0):Le (Og fu parserParser) (Xa parserParser):=by
 unfold Og Xa
 repeat (with_reducible first | exact Le.rfl | exact Y0 fu _ _ | exact N0 _ | refine Le.bind ?_ (fun _=>?_) | refine Le.ite ?_ ?_ | (rename_i x; cases x))
def Pg (fu:Nat)(parserParser:A0):Option (Int×Bool×A0):=
 P0 fu [38,38] parserParser>>=fun x1=>
 some (19,x1.1,x1.2)
theorem Y1 (fu:Nat)(parserParser:A0):Le (Pg fu parserParser) (Ya parserParser):=by
 unfold Pg Ya
 repeat (with_reducible first | exact Le.rfl | exact Y0 fu _ _ | exact N0 _ | refine Le.bind ?_ (fun _=>?_) | refine Le.ite ?_ ?_ | (rename_i x; cases x))
def Wh (fu:Nat)(parserParser:A0):Option (Int×Bool×A0):=
 P0 fu [124,124] parserParser>>=fun x1=>
 some (20,x1.1,x1.2)
theorem C2 (fu:Nat)(parserParser:A0):Le (Wh fu parserParser) (Oc parserParser):=by
 unfold Wh Oc
 repeat (with_reducible first | exact Le.rfl | exact Y0 fu _ _ | exact N0 _ | refine Le.bind ?_ (fun _=>?_) | refine Le.ite ?_ ?_ | (rename_i x; cases x))
mutual
def W1:Nat→A0→Option (Pn (B0×A0))
 | 0,_=>none
 | fu+1,parserParser=>
  Fj fu parserParser>>=fun x1=>match x1 with
  | .pn nn=>
  some (.pn nn)
  | .ok x1=>
  P0 fu [63] x1.2>>=fun x2=>
  if (!x2.1)=true then
   some (.ok (x1.1,x2.2))
  else
   W1 fu x2.2>>=fun x3=>match x3 with
   | .pn nn=>
   some (.pn nn)
   | .ok x3=>
   R0 fu [58] x3.2>>=fun x4=>match x4 with
   | .pn nn=>
   some (.pn nn)
   | .ok x4=>
   W1 fu x4>>=fun x5=>match x5 with
   | .pn nn=>
   some (.pn nn)
   | .ok x5=>
   some (.ok ((B0.mk 23 0 [] [x1.1,x3.1,x5.1]),x5.2))
def Fj:Nat→A0→Option (Pn (B0×A0))
 | 0,_=>none
 | fu+1,parserParser=>
  Qg fu parserParser>>=fun x1=>match x1 with
  | .pn nn=>
  some (.pn nn)
  | .ok x1=>
  some (.ok (x1.1,x1.2))
def Qg:Nat→A0→Option (Pn (B0×A0))
 | 0,_=>none
 | fu+1,parserParser=>
  Ve fu parserParser>>=fun x1=>match x1 with
  | .pn nn=>
  some (.pn nn)
  | .ok x1=>
  Aa fu x1.2 x1.1
def Ve:Nat→A0→Option (Pn (B0×A0))
 | 0,_=>none
 | fu+1,parserParser=>
  Pe fu parserParser>>=fun x1=>match x1 with
  | .pn nn=>
  some (.pn nn)
  | .ok x1=>
  some (.ok (x1.1,x1.2))
def Pe:Nat→A0→Option (Pn (B0×A0))
 | 0,_=>none
 | fu+1,parserParser=>
  X8 fu parserParser>>=fun x1=>match x1 with
  | .pn nn=>
  some (.pn nn)
  | .ok x1=>
  D8 fu x1.2 x1.1
def X8:Nat→A0→Option (Pn (B0×A0))
 | 0,_=>none
 | fu+1,parserParser=>
  We fu parserParser>>=fun x1=>match x1 with
  | .pn nn=>
  some (.pn nn)
  | .ok x1=>
  P0 fu [61,61] x1.2>>=fun x2=>
  if x2.1=true then
   M3 fu x2.2 x1 13
  else
   P0 fu [33,61] x2.2>>=fun x4=>
   if x4.1=true then
    M3 fu x4.2 x1 14
   else
    P0 fu [60] x4.2>>=fun x5=>
    if x5.1=true then
     M3 fu x5.2 x1 15
    else
     P0 fu [60,61] x5.2>>=fun x6=>
     if x6.1=true then
      M3 fu x6.2 x1 16
     else
      P0 fu [62] x6.2>>=fun x7=>
      if x7.1=true then
       M3 fu x7.2 x1 17
      else
       P0 fu [62,61] x7.2>>=fun x8=>
       if x8.1=true then
        M3 fu x8.2 x1 18
       else
        some (.ok (x1.1,x8.2))
def We:Nat→A0→Option (Pn (B0×A0))
 | 0,_=>none
 | fu+1,parserParser=>
  Qe fu parserParser>>=fun x1=>match x1 with
  | .pn nn=>
  some (.pn nn)
  | .ok x1=>
  some (.ok (x1.1,x1.2))
def Qe:Nat→A0→Option (Pn (B0×A0))
 | 0,_=>none
 | fu+1,parserParser=>
  Sa fu parserParser>>=fun x1=>match x1 with
  | .pn nn=>
  some (.pn nn)
  | .ok x1=>
  C8 fu x1.2 x1.1
def Sa:Nat→A0→Option (Pn (B0×A0))
 | 0,_=>none
 | fu+1,parserParser=>
  Re fu parserParser>>=fun x1=>match x1 with
  | .pn nn=>
  some (.pn nn)
  | .ok x1=>
  some (.ok (x1.1,x1.2))
def Re:Nat→A0→Option (Pn (B0×A0))
 | 0,_=>none
 | fu+1,parserParser=>
  U6 fu parserParser>>=fun x1=>match x1 with
  | .pn nn=>
  some (.pn nn)
  | .ok x1=>
  B8 fu x1.2 x1.1
def U6:Nat→A0→Option (Pn (B0×A0))
 | 0,_=>none
 | fu+1,parserParser=>
  P0 fu [45] parserParser>>=fun x1=>
  if x1.1=true then
   U6 fu x1.2>>=fun x4=>match x4 with
   | .pn nn=>
   some (.pn nn)
   | .ok x4=>
   some (.ok ((B0.mk 6 0 [] [x4.1]),x4.2))
  else
   P0 fu [33] x1.2>>=fun x2=>
   if x2.1=true then
    U6 fu x2.2>>=fun x5=>match x5 with
    | .pn nn=>
    some (.pn nn)
    | .ok x5=>
    some (.ok ((B0.mk 7 0 [] [x5.1]),x5.2))
   else
    Af fu x2.2>>=fun x3=>match x3 with
    | .pn nn=>
    some (.pn nn)
    | .ok x3=>
    some (.ok (x3.1,x3.2))
def Af:Nat→A0→Option (Pn (B0×A0))
 | 0,_=>none
 | fu+1,parserParser=>
  S8 fu parserParser>>=fun x1=>
  if x1=true then
   M9 fu parserParser>>=fun x2=>match x2 with
   | .pn nn=>
   some (.pn nn)
   | .ok x2=>
   some (.ok (x2.1,x2.2))
  else
   P0 fu [116,114,117,101] parserParser>>=fun x3=>
   if x3.1=true then
    some (.ok ((B0.mk 1 0 [] []),x3.2))
   else
    P0 fu [102,97,108,115,101] x3.2>>=fun x4=>
    if x4.1=true then
     some (.ok ((B0.mk 2 0 [] []),x4.2))
    else
     P0 fu [109,105,110] x4.2>>=fun x5=>
     if x5.1=true then
      Zd fu 21 x5.2>>=fun x11=>match x11 with
      | .pn nn=>
      some (.pn nn)
      | .ok x11=>
      some (.ok (x11.1,x11.2))
     else
      P0 fu [109,97,120] x5.2>>=fun x6=>
      if x6.1=true then
       Zd fu 22 x6.2>>=fun x12=>match x12 with
       | .pn nn=>
       some (.pn nn)
       | .ok x12=>
       some (.ok (x12.1,x12.2))
      else
       P0 fu [40] x6.2>>=fun x7=>
       if x7.1=true then
        W1 fu x7.2>>=fun x9=>match x9 with
        | .pn nn=>
        some (.pn nn)
        | .ok x9=>
        R0 fu [41] x9.2>>=fun x10=>match x10 with
        | .pn nn=>
        some (.pn nn)
        | .ok x10=>
        some (.ok (x9.1,x10))
       else
        R8 fu x7.2>>=fun x8=>match x8 with
        | .pn nn=>
        some (.pn nn)
        | .ok x8=>
        some (.ok ((B0.mk 0 x8.1 [] []),x8.2))
def M9:Nat→A0→Option (Pn (B0×A0))
 | 0,_=>none
 | fu+1,parserParser=>
  R3 fu parserParser>>=fun x1=>match x1 with
  | .pn nn=>
  some (.pn nn)
  | .ok x1=>
  M7 fu x1.2 3 x1.1 []
def M7:Nat→A0→Int→Str→(List B0)→Option (Pn (B0×A0))
 | 0,_,_,_,_=>none
 | fu+1,o0,o2_Op,o2_Name,o2_Kids=>
  P0 fu [46] o0>>=fun x2=>
  if x2.1=true then
   R3 fu x2.2>>=fun x3=>match x3 with
   | .pn nn=>
   some (.pn nn)
   | .ok x3=>
   M7 fu x3.2 4 x3.1 [(B0.mk o2_Op 0 o2_Name o2_Kids)]
  else
   P0 fu [91] x2.2>>=fun x4=>
   if x4.1=true then
    W1 fu x4.2>>=fun x5=>match x5 with
    | .pn nn=>
    some (.pn nn)
    | .ok x5=>
    R0 fu [93] x5.2>>=fun x6=>match x6 with
    | .pn nn=>
    some (.pn nn)
    | .ok x6=>
    M7 fu x6 5 [] [(B0.mk o2_Op 0 o2_Name o2_Kids),x5.1]
   else
    some (.ok ((B0.mk o2_Op 0 o2_Name o2_Kids),x4.2))
def Zd:Nat→Int→A0→Option (Pn (B0×A0))
 | 0,_,_=>none
 | fu+1,op,parserParser=>
  R0 fu [40] parserParser>>=fun x1=>match x1 with
  | .pn nn=>
  some (.pn nn)
  | .ok x1=>
  W1 fu x1>>=fun x2=>match x2 with
  | .pn nn=>
  some (.pn nn)
  | .ok x2=>
  R0 fu [44] x2.2>>=fun x3=>match x3 with
  | .pn nn=>
  some (.pn nn)
  | .ok x3=>
  W1 fu x3>>=fun x4=>match x4 with
  | .pn nn=>
  some (.pn nn)
  | .ok x4=>
  R0 fu [41] x4.2>>=fun x5=>match x5 with
  | .pn nn=>
  some (.pn nn)
  | .ok x5=>
  some (.ok ((B0.mk op 0 [] [x2.1,x4.1]),x5))
def B8:Nat→A0→B0→Option (Pn (B0×A0))
 | 0,_,_=>none
 | fu+1,o0,o3=>
  Yd fu o0>>=fun x2=>
  if (!x2.2.1)=true then
   some (.ok (o3,x2.2.2))
  else
   U6 fu x2.2.2>>=fun x3=>match x3 with
   | .pn nn=>
   some (.pn nn)
   | .ok x3=>
   B8 fu x3.2 (B0.mk x2.1 0 [] [o3,x3.1])
def C8:Nat→A0→B0→Option (Pn (B0×A0))
 | 0,_,_=>none
 | fu+1,o0,o3=>
  Og fu o0>>=fun x2=>
  if (!x2.2.1)=true then
   some (.ok (o3,x2.2.2))
  else
   Sa fu x2.2.2>>=fun x3=>match x3 with
   | .pn nn=>
   some (.pn nn)
   | .ok x3=>
   C8 fu x3.2 (B0.mk x2.1 0 [] [o3,x3.1])
def M3:Nat→A0→(B0×A0)→Int→Option (Pn (B0×A0))
 | 0,_,_,_=>none
 | fu+1,o0,x1,op=>
  We fu o0>>=fun x3=>match x3 with
  | .pn nn=>
  some (.pn nn)
  | .ok x3=>
  some (.ok ((B0.mk op 0 [] [x1.1,x3.1]),x3.2))
def D8:Nat→A0→B0→Option (Pn (B0×A0))
 | 0,_,_=>none
 | fu+1,o0,o3=>
  Pg fu o0>>=fun x2=>
  if (!x2.2.1)=true then
   some (.ok (o3,x2.2.2))
  else
   X8 fu x2.2.2>>=fun x3=>match x3 with
   | .pn nn=>
   some (.pn nn)
   | .ok x3=>
   D8 fu x3.2 (B0.mk x2.1 0 [] [o3,x3.1])
def Aa:Nat→A0→B0→Option (Pn (B0×A0))
 | 0,_,_=>none
 | fu+1,o0,o3=>
  Wh fu o0>>=fun x2=>
  if (!x2.2.1)=true then
   some (.ok (o3,x2.2.2))
  else
   Ve fu x2.2.2>>=fun x3=>match x3 with
   | .pn nn=>
   some (.pn nn)
   | .ok x3=>
   Aa fu x3.2 (B0.mk x2.1 0 [] [o3,x3.1])
end
theorem Rg (fu:Nat):(∀ (parserParser:A0),Le (W1 fu parserParser) (T1 parserParser))∧(∀ (parserParser:A0),Le (Fj fu parserParser) (Jh parserParser))∧(∀ (parserParser:A0),Le (Qg fu parserParser) (Ue parserParser))∧(∀ (parserParser:A0),Le (Ve fu parserParser) (Nd parserParser))∧(∀ (parserParser:A0),Le (Pe fu parserParser) (Sb parserParser))∧(∀ (parserParser:A0),Le (X8 fu parserParser) (H7 parserParser))∧(∀ (parserParser:A0),Le (We fu parserParser) (Od parserParser))∧(∀ (parserParser:A0),Le (Qe fu parserParser) (Tb parserParser))∧(∀ (parserParser:A0),Le (Sa fu parserParser) (D9 parserParser))∧(∀ (parserParser:A0),Le (Re fu parserParser) (Ub parserParser))∧(∀ (parserParser:A0),Le (U6 fu parserParser) (I6 parserParser))∧(∀ (parserParser:A0),Le (Af fu parserParser) (Fd parserParser))∧(∀ (parserParser:A0),Le (M9 fu parserParser) (J6 parserParser))∧(∀ (o0:A0) (o2_Op:Int) (o2_Name:Str) (o2_Kids:List B0),Le (M7 fu o0 o2_Op o2_Name o2_Kids) (E6 o0 o2_Op o2_Name o2_Kids))∧(∀ (op:Int) (parserParser:A0),Le (Zd fu op parserParser) (Rc op parserParser))∧(∀ (o0:A0) (o3:B0),Le (B8 fu o0 o3) (N6 o0 o3))∧(∀ (o0:A0) (o3:B0),Le (C8 fu o0 o3) (M6 o0 o3))∧(∀ (o0:A0) (x1:B0×A0) (op:Int),Le (M3 fu o0 x1 op) (J3 o0 x1 op))∧(∀ (o0:A0) (o3:B0),Le (D8 fu o0 o3) (L6 o0 o3))∧(∀ (o0:A0) (o3:B0),Le (Aa fu o0 o3) (H8 o0 o3)):=by
 induction fu with
 | zero=>exact ⟨fun _=>Le.none,fun _=>Le.none,fun _=>Le.none,fun _=>Le.none,fun _=>Le.none,fun _=>Le.none,fun _=>Le.none,fun _=>Le.none,fun _=>Le.none,fun _=>Le.none,fun _=>Le.none,fun _=>Le.none,fun _=>Le.none,fun _ _ _ _=>Le.none,fun _ _=>Le.none,fun _ _=>Le.none,fun _ _=>Le.none,fun _ _ _=>Le.none,fun _ _=>Le.none,fun _ _=>Le.none⟩
 | succ fu ih=>
  obtain ⟨ih0,ih1,ih2,ih3,ih4,ih5,ih6,ih7,ih8,ih9,ih10,ih11,ih12,ih13,ih14,ih15,ih16,ih17,ih18,ih19⟩:=ih
  refine ⟨fun parserParser=>?_,fun parserParser=>?_,fun parserParser=>?_,fun parserParser=>?_,fun parserParser=>?_,fun parserParser=>?_,fun parserParser=>?_,fun parserParser=>?_,fun parserParser=>?_,fun parserParser=>?_,fun parserParser=>?_,fun parserParser=>?_,fun parserParser=>?_,fun o0 o2_Op o2_Name o2_Kids=>?_,fun op parserParser=>?_,fun o0 o3=>?_,fun o0 o3=>?_,fun o0 x1 op=>?_,fun o0 o3=>?_,fun o0 o3=>?_⟩
  ·rw [W1,T1]
   repeat (with_reducible first | exact Le.rfl | exact ih0 _ | exact ih1 _ | exact ih2 _ | exact ih3 _ | exact ih4 _ | exact ih5 _ | exact ih6 _ | exact ih7 _ | exact ih8 _ | exact ih9 _ | exact ih10 _ | exact ih11 _ | exact ih12 _ | exact ih13 _ _ _ _ | exact ih14 _ _ | exact ih15 _ _ | exact ih16 _ _ | exact ih17 _ _ _ | exact ih18 _ _ | exact ih19 _ _ | exact Y0 fu _ _ | exact Z0 fu _ _ | exact I1 fu _ | exact R1 fu _ | exact D1 fu _ | exact Q1 fu _ | exact X1 fu _ | exact Y1 fu _ | exact C2 fu _ | exact N0 _ | refine Le.bind ?_ (fun _=>?_) | refine Le.ite ?_ ?_ | (rename_i x; cases x))
  ·rw [Fj,Jh]
   repeat (with_reducible first | exact Le.rfl | exact ih0 _ | exact ih1 _ | exact ih2 _ | exact ih3 _ | exact ih4 _ | exact ih5 _ | exact ih6 _ | exact ih7 _ | exact ih8 _ | exact ih9 _ | exact ih10 _ | exact ih11 _ | exact ih12 _ | exact ih13 _ _ _ _ | exact ih14 _ _ | exact ih15 _ _ | exact ih16 _ _ | exact ih17 _ _ _ | exact ih18 _ _ | exact ih19 _ _ | exact Y0 fu _ _ | exact Z0 fu _ _ | exact I1 fu _ | exact R1 fu _ | exact D1 fu _ | exact Q1 fu _ | exact X1 fu _ | exact Y1 fu _ | exact C2 fu _ | exact N0 _ | refine Le.bind ?_ (fun _=>?_) | refine Le.ite ?_ ?_ | (rename_i x; cases x))
  ·rw [Qg,Ue]
   repeat (with_reducible first | exact Le.rfl | exact ih0 _ | exact ih1 _ | exact ih2 _ | exact ih3 _ | exact ih4 _ | exact ih5 _ | exact ih6 _ | exact ih7 _ | exact ih8 _ | exact ih9 _ | exact ih10 _ | exact ih11 _ | exact ih12 _ | exact ih13 _ _ _ _ | exact ih14 _ _ | exact ih15 _ _ | exact ih16 _ _ | exact ih17 _ _ _ | exact ih18 _ _ | exact ih19 _ _ | exact Y0 fu _ _ | exact Z0 fu _ _ | exact I1 fu _ | exact R1 fu _ | exact D1 fu _ | exact Q1 fu _ | exact X1 fu _ | exact Y1 fu _ | exact C2 fu _ | exact N0 _ | refine Le.bind ?_ (fun _=>?_) | refine Le.ite ?_ ?_ | (rename_i x; cases x))
  ·rw [Ve,Nd]
   repeat (with_reducible first | exact Le.rfl | exact ih0 _ | exact ih1 _ | exact ih2 _ | exact ih3 _ | exact ih4 _ | exact ih5 _ | exact ih6 _ | exact ih7 _ | exact ih8 _ | exact ih9 _ | exact ih10 _ | exact ih11 _ | exact ih12 _ | exact ih13 _ _ _ _ | exact ih14 _ _ | exact ih15 _ _ | exact ih16 _ _ | exact ih17 _ _ _ | exact ih18 _ _ | exact ih19 _ _ | exact Y0 fu _ _ | exact Z0 fu _ _ | exact I1 fu _ | exact R1 fu _ | exact D1 fu _ | exact Q1 fu _ | exact X1 fu _ | exact Y1 fu _ | exact C2 fu _ | exact N0 _ | refine Le.bind ?_ (fun _=>?_) | refine Le.ite ?_ ?_ | (rename_i x; cases x))
  ·rw [Pe,Sb]
   repeat (with_reducible first | exact Le.rfl | exact ih0 _ | exact ih1 _ | exact ih2 _ | exact ih3 _ | exact ih4 _ | exact ih5 _ | exact ih6 _ | exact ih7 _ | exact ih8 _ | exact ih9 _ | exact ih10 _ | exact ih11 _ | exact ih12 _ | exact ih13 _ _ _ _ | exact ih14 _ _ | exact ih15 _ _ | exact ih16 _ _ | exact ih17 _ _ _ | exact ih18 _ _ | exact ih19 _ _ | exact Y0 fu _ _ | exact Z0 fu _ _ | exact I1 fu _ | exact R1 fu _ | exact D1 fu _ | exact Q1 fu _ | exact X1 fu _ | exact Y1 fu _ | exact C2 fu _ | exact N0 _ | refine Le.bind ?_ (fun _=>?_) | refine Le.ite ?_ ?_ | (rename_i x; cases x))
  ·rw [X8,H7]
   repeat (with_reducible first | exact Le.rfl | exact ih0 _ | exact ih1 _ | exact ih2 _ | exact ih3 _ | exact ih4 _ | exact ih5 _ | exact ih6 _ | exact ih7 _ | exact ih8 _ | exact ih9 _ | exact ih10 _ | exact ih11 _ | exact ih12 _ | exact ih13 _ _ _ _ | exact ih14 _ _ | exact ih15 _ _ | exact ih16 _ _ | exact ih17 _ _ _ | exact ih18 _ _ | exact ih19 _ _ | exact Y0 fu _ _ | exact Z0 fu _ _ | exact I1 fu _ | exact R1 fu _ | exact D1 fu _ | exact Q1 fu _ | exact X1 fu _ | exact Y1 fu _ | exact C2 fu _ | exact N0 _ | refine Le.bind ?_ (fun _=>?_) | refine Le.ite ?_ ?_ | (rename_i x; cases x))
  ·rw [We,Od]
   repeat (with_reducible first | exact Le.rfl | exact ih0 _ | exact ih1 _ | exact ih2 _ | exact ih3 _ | exact ih4 _ | exact ih5 _ | exact ih6 _ | exact ih7 _ | exact ih8 _ | exact ih9 _ | exact ih10 _ | exact ih11 _ | exact ih12 _ | exact ih13 _ _ _ _ | exact ih14 _ _ | exact ih15 _ _ | exact ih16 _ _ | exact ih17 _ _ _ | exact ih18 _ _ | exact ih19 _ _ | exact Y0 fu _ _ | exact Z0 fu _ _ | exact I1 fu _ | exact R1 fu _ | exact D1 fu _ | exact Q1 fu _ | exact X1 fu _ | exact Y1 fu _ | exact C2 fu _ | exact N0 _ | refine Le.bind ?_ (fun _=>?_) | refine Le.ite ?_ ?_ | (rename_i x; cases x))
  ·rw [Qe,Tb]
   repeat (with_reducible first | exact Le.rfl | exact ih0 _ | exact ih1 _ | exact ih2 _ | exact ih3 _ | exact ih4 _ | exact ih5 _ | exact ih6 _ | exact ih7 _ | exact ih8 _ | exact ih9 _ | exact ih10 _ | exact ih11 _ | exact ih12 _ | exact ih13 _ _ _ _ | exact ih14 _ _ | exact ih15 _ _ | exact ih16 _ _ | exact ih17 _ _ _ | exact ih18 _ _ | exact ih19 _ _ | exact Y0 fu _ _ | exact Z0 fu _ _ | exact I1 fu _ | exact R1 fu _ | exact D1 fu _ | exact Q1 fu _ | exact X1 fu _ | exact Y1 fu _ | exact C2 fu _ | exact N0 _ | refine Le.bind ?_ (fun _=>?_) | refine Le.ite ?_ ?_ | (rename_i x; cases x))
  ·rw [Sa,D9]
   repeat (with_reducible first | exact Le.rfl | exact ih0 _ | exact ih1 _ | exact ih2 _ | exact ih3 _ | exact ih4 _ | exact ih5 _ | exact ih6 _ | exact ih7 _ | exact ih8 _ | exact ih9 _ | exact ih10 _ | exact ih11 _ | exact ih12 _ | exact ih13 _ _ _ _ | exact ih14 _ _ | exact ih15 _ _ | exact ih16 _ _ | exact ih17 _ _ _ | exact ih18 _ _ | exact ih19 _ _ | exact Y0 fu _ _ | exact Z0 fu _ _ | exact I1 fu _ | exact R1 fu _ | exact D1 fu _ | exact Q1 fu _ | exact X1 fu _ | exact Y1 fu _ | exact C2 fu _ | exact N0 _ | refine Le.bind ?_ (fun _=>?_) | refine Le.ite ?_ ?_ | (rename_i x; cases x))
  ·rw [Re,Ub]
   repeat (with_reducible first | exact Le.rfl | exact ih0 _ | exact ih1 _ | exact ih2 _ | exact ih3 _ | exact ih4 _ | exact ih5 _ | exact ih6 _ | exact ih7 _ | exact ih8 _ | exact ih9 _ | exact ih10 _ | exact ih11 _ | exact ih12 _ | exact ih13 _ _ _ _ | exact ih14 _ _ | exact ih15 _ _ | exact ih16 _ _ | exact ih17 _ _ _ | exact ih18 _ _ | exact ih19 _ _ | exact Y0 fu _ _ | exact Z0 fu _ _ | exact I1 fu _ | exact R1 fu _ | exact D1 fu _ | exact Q1 fu _ | exact X1 fu _ | exact Y1 fu _ | exact C2 fu _ | exact N0 _ | refine Le.bind ?_ (fun _=>?_) | refine Le.ite ?_ ?_ | (rename_i x; cases x))
  ·rw [U6,I6]
   repeat (with_reducible first | exact Le.rfl | exact ih0 _ | exact ih1 _ | exact ih2 _ | exact ih3 _ | exact ih4 _ | exact ih5 _ | exact ih6 _ | exact ih7 _ | exact ih8 _ | exact ih9 _ | exact ih10 _ | exact ih11 _ | exact ih12 _ | exact ih13 _ _ _ _ | exact ih14 _ _ | exact ih15 _ _ | exact ih16 _ _ | exact ih17 _ _ _ | exact ih18 _ _ | exact ih19 _ _ | exact Y0 fu _ _ | exact Z0 fu _ _ | exact I1 fu _ | exact R1 fu _ | exact D1 fu _ | exact Q1 fu _ | exact X1 fu _ | exact Y1 fu _ | exact C2 fu _ | exact N0 _ | refine Le.bind ?_ (fun _=>?_) | refine Le.ite ?_ ?_ | (rename_i x; cases x))
  ·rw [Af,Fd]
   repeat (with_reducible first | exact Le.rfl | exact ih0 _ | exact ih1 _ | exact ih2 _ | exact ih3 _ | exact ih4 _ | exact ih5 _ | exact ih6 _ | exact ih7 _ | exact ih8 _ | exact ih9 _ | exact ih10 _ | exact ih11 _ | exact ih12 _ | exact ih13 _ _ _ _ | exact ih14 _ _ | exact ih15 _ _ | exact ih16 _ _ | exact ih17 _ _ _ | exact ih18 _ _ | exact ih19 _ _ | exact Y0 fu _ _ | exact Z0 fu _ _ | exact I1 fu _ | exact R1 fu _ | exact D1 fu _ | exact Q1 fu _ | exact X1 fu _ | exact Y1 fu _ | exact C2 fu _ | exact N0 _ | refine Le.bind ?_ (fun _=>?_) | refine Le.ite ?_ ?_ | (rename_i x; cases x))
  ·rw [M9,J6]
   repeat (with_reducible first | exact Le.rfl | exact ih0 _ | exact ih1 _ | exact ih2 _ | exact ih3 _ | exact ih4 _ | exact ih5 _ | exact ih6 _ | exact ih7 _ | exact ih8 _ | exact ih9 _ | exact ih10 _ | exact ih11 _ | exact ih12 _ | exact ih13 _ _ _ _ | exact ih14 _ _ | exact ih15 _ _ | exact ih16 _ _ | exact ih17 _ _ _ | exact ih18 _ _ | exact ih19 _ _ | exact Y0 fu _ _ | exact Z0 fu _ _ | exact I1 fu _ | exact R1 fu _ | exact D1 fu _ | exact Q1 fu _ | exact X1 fu _ | exact Y1 fu _ | exact C2 fu _ | exact N0 _ | refine Le.bind ?_ (fun _=>?_) | refine Le.ite ?_ ?_ | (rename_i x; cases x))
  ·rw [M7,E6]
   repeat (with_reducible first | exact Le.rfl | exact ih0 _ | exact ih1 _ | exact ih2 _ | exact ih3 _ | exact ih4 _ | exact ih5 _ | exact ih6 _ | exact ih7 _ | exact ih8 _ | exact ih9 _ | exact ih10 _ | exact ih11 _ | exact ih12 _ | exact ih13 _ _ _ _ | exact ih14 _ _ | exact ih15 _ _ | exact ih16 _ _ | exact ih17 _ _ _ | exact ih18 _ _ | exact ih19 _ _ | exact Y0 fu _ _ | exact Z0 fu _ _ | exact I1 fu _ | exact R1 fu _ | exact D1 fu _ | exact Q1 fu _ | exact X1 fu _ | exact Y1 fu _ | exact C2 fu _ | exact N0 _ | refine Le.bind ?_ (fun _=>?_) | refine Le.ite ?_ ?_ | (rename_i x; cases x))
  ·rw [Zd,Rc]
   repeat (with_reducible first | exact Le.rfl | exact ih0 _ | exact ih1 _ | exact ih2 _ | exact ih3 _ | exact ih4 _ | exact ih5 _ | exact ih6 _ | exact ih7 _ | exact ih8 _ | exact ih9 _ | exact ih10 _ | exact ih11 _ | exact ih12 _ | exact ih13 _ _ _ _ | exact ih14 _ _ | exact ih15 _ _ | exact ih16 _ _ | exact ih17 _ _ _ | exact ih18 _ _ | exact ih19 _ _ | exact Y0 fu _ _ | exact Z0 fu _ _ | exact I1 fu _ | exact R1 fu _ | exact D1 fu _ | exact Q1 fu _ | exact X1 fu _ | exact Y1 fu _ | exact C2 fu _ | exact N0 _ | refine Le.bind ?_ (fun _=>?_) | refine Le.ite ?_ ?_ | (rename_i x; cases x))
  ·rw [B8,N6]
   repeat (with_reducible first | exact Le.rfl | exact ih0 _ | exact ih1 _ | exact ih2 _ | exact ih3 _ | exact ih4 _ | exact ih5 _ | exact ih6 _ | exact ih7 _ | exact ih8 _ | exact ih9 _ | exact ih10 _ | exact ih11 _ | exact ih12 _ | exact ih13 _ _ _ _ | exact ih14 _ _ | exact ih15 _ _ | exact ih16 _ _ | exact ih17 _ _ _ | exact ih18 _ _ | exact ih19 _ _ | exact Y0 fu _ _ | exact Z0 fu _ _ | exact I1 fu _ | exact R1 fu _ | exact D1 fu _ | exact Q1 fu _ | exact X1 fu _ | exact Y1 fu _ | exact C2 fu _ | exact N0 _ | refine Le.bind ?_ (fun _=>?_) | refine Le.ite ?_ ?_ | (rename_i x; cases x))
  ·rw [C8,M6]
   repeat (with_reducible first | exact Le.rfl | exact ih0 _ | exact ih1 _ | exact ih2 _ | exact ih3 _ | exact ih4 _ | exact ih5 _ | exact ih6 _ | exact ih7 _ | exact ih8 _ | exact ih9 _ | exact ih10 _ | exact ih11 _ | exact ih12 _ | exact ih13 _ _ _ _ | exact ih14 _ _ | exact ih15 _ _ | exact ih16 _ _ | exact ih17 _ _ _ | exact ih18 _ _ | exact ih19 _ _ | exact Y0 fu _ _ | exact Z0 fu _ _ | exact I1 fu _ | exact R1 fu _ | exact D1 fu _ | exact Q1 fu _ | exact X1 fu _ | exact Y1 fu _ | exact C2 fu _ | exact N0 _ | refine Le.bind ?_ (fun _=>?_) | refine Le.ite ?_ ?_ | (rename_i x; cases x))
  ·rw [M3,J3]
   repeat (with_reducible first | exact Le.rfl | exact ih0 _ | exact ih1 _ | exact ih2 _ | exact ih3 _ | exact ih4 _ | exact ih5 _ | exact ih6 _ | exact ih7 _ | exact ih8 _ | exact ih9 _ | exact ih10 _ | exact ih11 _ | exact ih12 _ | exact ih13 _ _ _ _ | exact ih14 _ _ | exact ih15 _ _ | exact ih16 _ _ | exact ih17 _ _ _ | exact ih18 _ _ | exact ih19 _ _ | exact Y0 fu _ _ | exact Z0 fu _ _ | exact I1 fu _ | exact R1 fu _ | exact D1 fu _ | exact Q1 fu _ | exact X1 fu _ | exact Y1 fu _ | exact C2 fu _ | exact N0 _ | refine Le.bind ?_ (fun _=>?_) | refine Le.ite ?_ ?_ | (rename_i x; cases x))
  ·rw [D8,L6]
   repeat (with_reducible first | exact Le.rfl | exact ih0 _ | exact ih1 _ | exact ih2 _ | exact ih3 _ | exact ih4 _ | exact ih5 _ | exact ih6 _ | exact ih7 _ | exact ih8 _ | exact ih9 _ | exact ih10 _ | exact ih11 _ | exact ih12 _ | exact ih13 _ _ _ _ | exact ih14 _ _ | exact ih15 _ _ | exact ih16 _ _ | exact ih17 _ _ _ | exact ih18 _ _ | exact ih19 _ _ | exact Y0 fu _ _ | exact Z0 fu _ _ | exact I1 fu _ | exact R1 fu _ | exact D1 fu _ | exact Q1 fu _ | exact X1 fu _ | exact Y1 fu _ | exact C2 fu _ | exact N0 _ | refine Le.bind ?_ (fun _=>?_) | refine Le.ite ?_ ?_ | (rename_i x; cases x))
  ·rw [Aa,H8]
   repeat (with_reducible first | exact Le.rfl | exact ih0 _ | exact ih1 _ | exact ih2 _ | exact ih3 _ | exact ih4 _ | exact ih5 _ | exact ih6 _ | exact ih7 _ | exact ih8 _ | exact ih9 _ | exact ih10 _ | exact ih11 _ | exact ih12 _ | exact ih13 _ _ _ _ | exact ih14 _ _ | exact ih15 _ _ | exact ih16 _ _ | exact ih17 _ _ _ | exact ih18 _ _ | exact ih19 _ _ | exact Y0 fu _ _ | exact Z0 fu _ _ | exact I1 fu _ | exact R1 fu _ | exact D1 fu _ | exact Q1 fu _ | exact X1 fu _ | exact Y1 fu _ | exact C2 fu _ | exact N0 _ | refine Le.bind ?_ (fun _=>?_) | refine Le.ite ?_ ?_ | (rename_i x; cases x))
theorem W3 (fu:Nat)(parserParser:A0):Le (W1 fu parserParser) (T1 parserParser):=(Rg fu).1 parserParser
theorem Et (fu:Nat)(parserParser:A0):Le (M9 fu parserParser) (J6 parserParser):=(Rg fu).2.2.2.2.2.2.2.2.2.2.2.2.1 parserParser
def I5:Nat→A0→(B0×A0)→(Str×A0)→(List B0)→Option (Pn (J0×A0))
 | 0,_,_,_,_=>none
 | fu+1,o0,x1,x4,o2_Args=>
  P0 fu [44] o0>>=fun x13=>
  if x13.1=true then
   W1 fu x13.2>>=fun x14=>match x14 with
   | .pn nn=>
   some (.pn nn)
   | .ok x14=>
   if (decide ((o2_Args.length+1) * 57≤140737488355328))=true then
    I5 fu x14.2 x1 x4 (o2_Args++[x14.1])
   else none
  else
   R0 fu [41] x13.2>>=fun x8=>match x8 with
   | .pn nn=>
   some (.pn nn)
   | .ok x8=>
   R0 fu [59] x8>>=fun x9=>match x9 with
   | .pn nn=>
   some (.pn nn)
   | .ok x9=>
   some (.ok ((J0.mk 1 x1.1 (B0.mk 0 0 [] []) x4.1 o2_Args 0 0 0 [] [] []),x9))
theorem Il (fu:Nat):(∀ (o0:A0) (x1:B0×A0) (x4:Str×A0) (o2_Args:List B0),Le (I5 fu o0 x1 x4 o2_Args) (V3 o0 x1 x4 o2_Args)):=by
 induction fu with
 | zero=>exact fun _ _ _ _=>Le.none
 | succ fu ih=>
  have ih0:=ih
  refine fun o0 x1 x4 o2_Args=>?_
  ·rw [I5,V3]
   repeat (with_reducible first | exact Le.rfl | exact ih0 _ _ _ _ | exact Y0 fu _ _ | exact W3 fu _ | exact Z0 fu _ _ | exact N0 _ | refine Le.bind ?_ (fun _=>?_) | refine Le.ite ?_ ?_ | (rename_i x; cases x))
theorem Dm (fu:Nat)(o0:A0)(x1:B0×A0)(x4:Str×A0)(o2_Args:List B0):Le (I5 fu o0 x1 x4 o2_Args) (V3 o0 x1 x4 o2_Args):=(Il fu) o0 x1 x4 o2_Args
def Oa (fu:Nat)(x7:B0×A0)(x1:B0×A0)(x4:Str×A0):Option (Pn (J0×A0)):=
 I5 fu x7.2 x1 x4 [x7.1]
theorem Em (fu:Nat)(x7:B0×A0)(x1:B0×A0)(x4:Str×A0):Le (Oa fu x7 x1 x4) (P5 x7 x1 x4):=by
 unfold Oa P5
 repeat (with_reducible first | exact Le.rfl | exact Dm fu _ _ _ _ | exact N0 _ | refine Le.bind ?_ (fun _=>?_) | refine Le.ite ?_ ?_ | (rename_i x; cases x))
def Md (fu:Nat)(parserParser:A0):Option (Pn (J0×A0)):=
 M9 fu parserParser>>=fun x1=>match x1 with
 | .pn nn=>
 some (.pn nn)
 | .ok x1=>
 R0 fu [61] x1.2>>=fun x2=>match x2 with
 | .pn nn=>
 some (.pn nn)
 | .ok x2=>
 P0 fu [99,97,108,108] x2>>=fun x3=>
 if x3.1=true then
  R3 fu x3.2>>=fun x4=>match x4 with
  | .pn nn=>
  some (.pn nn)
  | .ok x4=>
  R0 fu [40] x4.2>>=fun x5=>match x5 with
  | .pn nn=>
  some (.pn nn)
  | .ok x5=>
  Mf fu [41] x5>>=fun x6=>
  if (!x6)=true then
   W1 fu x5>>=fun x7=>match x7 with
   | .pn nn=>
   some (.pn nn)
   | .ok x7=>
   if (decide ((0+1) * 57≤140737488355328))=true then
    Oa fu x7 x1 x4
   else none
  else
   R0 fu [41] x5>>=fun x8=>match x8 with
   | .pn nn=>
   some (.pn nn)
   | .ok x8=>
   R0 fu [59] x8>>=fun x9=>match x9 with
   | .pn nn=>
   some (.pn nn)
   | .ok x9=>
   some (.ok ((J0.mk 1 x1.1 (B0.mk 0 0 [] []) x4.1 [] 0 0 0 [] [] []),x9))
 else
  P0 fu [114,101,108,101,97,115,101] x3.2>>=fun x10=>
  if x10.1=true then
   R3 fu x10.2>>=fun x11=>match x11 with
   | .pn nn=>
   some (.pn nn)
   | .ok x11=>
   R0 fu [59] x11.2>>=fun x9=>match x9 with
   | .pn nn=>
   some (.pn nn)
   | .ok x9=>
   some (.ok ((J0.mk 2 x1.1 (B0.mk 0 0 [] []) x11.1 [] 0 0 0 [] [] []),x9))
  else
   W1 fu x10.2>>=fun x12=>match x12 with
   | .pn nn=>
   some (.pn nn)
   | .ok x12=>
   R0 fu [59] x12.2>>=fun x9=>match x9 with
   | .pn nn=>
   some (.pn nn)
   | .ok x9=>
   some (.ok ((J0.mk 0 x1.1 x12.1 [] [] 0 0 0 [] [] []),x9))
theorem E8 (fu:Nat)(parserParser:A0):Le (Md fu parserParser) (I7 parserParser):=by
 unfold Md I7
 repeat (with_reducible first | exact Le.rfl | exact Et fu _ | exact Z0 fu _ _ | exact Y0 fu _ _ | exact D1 fu _ | exact Um fu _ _ | exact W3 fu _ | exact Em fu _ _ _ | exact N0 _ | refine Le.bind ?_ (fun _=>?_) | refine Le.ite ?_ ?_ | (rename_i x; cases x))
def L5:Nat→A0→(List Int)→Option (Pn (J0×Bool×A0))
 | 0,_,_=>none
 | fu+1,o0,o2_Numbers=>
  P0 fu [44] o0>>=fun x23=>
  if x23.1=true then
   A3 fu x23.2>>=fun x24=>match x24 with
   | .pn nn=>
   some (.pn nn)
   | .ok x24=>
   if (decide ((o2_Numbers.length+1) * 9≤140737488355328))=true then
    L5 fu x24.2 (o2_Numbers++[x24.1])
   else none
  else
   R0 fu [59] x23.2>>=fun x25=>match x25 with
   | .pn nn=>
   some (.pn nn)
   | .ok x25=>
   some (.ok ((J0.mk 8 (B0.mk 0 0 [] []) (B0.mk 0 0 [] []) [] [] 0 0 0 o2_Numbers [] []),true,x25))
theorem Fm (fu:Nat):(∀ (o0:A0) (o2_Numbers:List Int),Le (L5 fu o0 o2_Numbers) (Y3 o0 o2_Numbers)):=by
 induction fu with
 | zero=>exact fun _ _=>Le.none
 | succ fu ih=>
  have ih0:=ih
  refine fun o0 o2_Numbers=>?_
  ·rw [L5,Y3]
   repeat (with_reducible first | exact Le.rfl | exact ih0 _ _ | exact Y0 fu _ _ | exact K4 fu _ | exact Z0 fu _ _ | exact N0 _ | refine Le.bind ?_ (fun _=>?_) | refine Le.ite ?_ ?_ | (rename_i x; cases x))
theorem Z6 (fu:Nat)(o0:A0)(o2_Numbers:List Int):Le (L5 fu o0 o2_Numbers) (Y3 o0 o2_Numbers):=(Fm fu) o0 o2_Numbers
mutual
def C5:Nat→A0→Option (Pn (List J0×A0))
 | 0,_=>none
 | fu+1,parserParser=>
  A7 fu parserParser []
def A7:Nat→A0→(List J0)→Option (Pn (List J0×A0))
 | 0,_,_=>none
 | fu+1,o0,out=>
  Ae fu o0>>=fun x1=>match x1 with
  | .pn nn=>
  some (.pn nn)
  | .ok x1=>
  if (!x1.2.1)=true then
   some (.ok (out,x1.2.2))
  else
   if (decide ((out.length+1) * 257≤140737488355328))=true then
    A7 fu x1.2.2 (out++[x1.1])
   else none
def Ae:Nat→A0→Option (Pn (J0×Bool×A0))
 | 0,_=>none
 | fu+1,parserParser=>
  S8 fu parserParser>>=fun x1=>
  if x1=true then
   Md fu parserParser>>=fun x2=>match x2 with
   | .pn nn=>
   some (.pn nn)
   | .ok x2=>
   some (.ok (x2.1,true,x2.2))
  else
   P0 fu [111,117,116,112,117,116] parserParser>>=fun x3=>
   if x3.1=true then
    W1 fu x3.2>>=fun x4=>match x4 with
    | .pn nn=>
    some (.pn nn)
    | .ok x4=>
    R0 fu [59] x4.2>>=fun x5=>match x5 with
    | .pn nn=>
    some (.pn nn)
    | .ok x5=>
    some (.ok ((J0.mk 3 (B0.mk 0 0 [] []) x4.1 [] [] 0 0 0 [] [] []),true,x5))
   else
    P0 fu [119,97,105,116] x3.2>>=fun x6=>
    if x6.1=true then
     A3 fu x6.2>>=fun x7=>match x7 with
     | .pn nn=>
     some (.pn nn)
     | .ok x7=>
     R0 fu [59] x7.2>>=fun x8=>match x8 with
     | .pn nn=>
     some (.pn nn)
     | .ok x8=>
     some (.ok ((J0.mk 4 (B0.mk 0 0 [] []) (B0.mk 0 0 [] []) [] [] x7.1 0 0 [] [] []),true,x8))
    else
     P0 fu [115,101,116,116,108,101] x6.2>>=fun x9=>
     if x9.1=true then
      A3 fu x9.2>>=fun x10=>match x10 with
      | .pn nn=>
      some (.pn nn)
      | .ok x10=>
      L5 fu x10.2 [x10.1]
     else
      P0 fu [105,102] x9.2>>=fun x11=>
      if x11.1=true then
       W1 fu x11.2>>=fun x12=>match x12 with
       | .pn nn=>
       some (.pn nn)
       | .ok x12=>
       V6 fu x12.2>>=fun x26=>match x26 with
       | .pn nn=>
       some (.pn nn)
       | .ok x26=>
       P0 fu [101,108,115,101] x26.2>>=fun x27=>
       if x27.1=true then
        V6 fu x27.2>>=fun x28=>match x28 with
        | .pn nn=>
        some (.pn nn)
        | .ok x28=>
        some (.ok ((J0.mk 5 (B0.mk 0 0 [] []) x12.1 [] [] 0 0 0 [] x26.1 x28.1),true,x28.2))
       else
        some (.ok ((J0.mk 5 (B0.mk 0 0 [] []) x12.1 [] [] 0 0 0 [] x26.1 []),true,x27.2))
      else
       P0 fu [119,104,105,108,101] x11.2>>=fun x13=>
       if x13.1=true then
        W1 fu x13.2>>=fun x14=>match x14 with
        | .pn nn=>
        some (.pn nn)
        | .ok x14=>
        R0 fu [108,105,109,105,116] x14.2>>=fun x15=>match x15 with
        | .pn nn=>
        some (.pn nn)
        | .ok x15=>
        A3 fu x15>>=fun x16=>match x16 with
        | .pn nn=>
        some (.pn nn)
        | .ok x16=>
        V6 fu x16.2>>=fun x29=>match x29 with
        | .pn nn=>
        some (.pn nn)
        | .ok x29=>
        some (.ok ((J0.mk 6 (B0.mk 0 0 [] []) x14.1 [] [] x16.1 0 0 [] x29.1 []),true,x29.2))
       else
        P0 fu [102,111,114] x13.2>>=fun x17=>
        if x17.1=true then
         R3 fu x17.2>>=fun x18=>match x18 with
         | .pn nn=>
         some (.pn nn)
         | .ok x18=>
         R0 fu [61] x18.2>>=fun x19=>match x19 with
         | .pn nn=>
         some (.pn nn)
         | .ok x19=>
         A3 fu x19>>=fun x20=>match x20 with
         | .pn nn=>
         some (.pn nn)
         | .ok x20=>
         R0 fu [116,111] x20.2>>=fun x21=>match x21 with
         | .pn nn=>
         some (.pn nn)
         | .ok x21=>
         A3 fu x21>>=fun x22=>match x22 with
         | .pn nn=>
         some (.pn nn)
         | .ok x22=>
         V6 fu x22.2>>=fun x30=>match x30 with
         | .pn nn=>
         some (.pn nn)
         | .ok x30=>
         some (.ok ((J0.mk 7 (B0.mk 0 0 [] []) (B0.mk 0 0 [] []) x18.1 [] 0 x20.1 x22.1 [] x30.1 []),true,x30.2))
        else
         some (.ok ((J0.mk 0 (B0.mk 0 0 [] []) (B0.mk 0 0 [] []) [] [] 0 0 0 [] [] []),false,x17.2))
def V6:Nat→A0→Option (Pn (List J0×A0))
 | 0,_=>none
 | fu+1,parserParser=>
  R0 fu [123] parserParser>>=fun x1=>match x1 with
  | .pn nn=>
  some (.pn nn)
  | .ok x1=>
  C5 fu x1>>=fun x2=>match x2 with
  | .pn nn=>
  some (.pn nn)
  | .ok x2=>
  R0 fu [125] x2.2>>=fun x3=>match x3 with
  | .pn nn=>
  some (.pn nn)
  | .ok x3=>
  some (.ok (x2.1,x3))
end
theorem On (fu:Nat):(∀ (parserParser:A0),Le (C5 fu parserParser) (X3 parserParser))∧(∀ (o0:A0) (out:List J0),Le (A7 fu o0 out) (Q5 o0 out))∧(∀ (parserParser:A0),Le (Ae fu parserParser) (Qa parserParser))∧(∀ (parserParser:A0),Le (V6 fu parserParser) (K6 parserParser)):=by
 induction fu with
 | zero=>exact ⟨fun _=>Le.none,fun _ _=>Le.none,fun _=>Le.none,fun _=>Le.none⟩
 | succ fu ih=>
  obtain ⟨ih0,ih1,ih2,ih3⟩:=ih
  refine ⟨fun parserParser=>?_,fun o0 out=>?_,fun parserParser=>?_,fun parserParser=>?_⟩
  ·rw [C5,X3]
   repeat (with_reducible first | exact Le.rfl | exact ih0 _ | exact ih1 _ _ | exact ih2 _ | exact ih3 _ | exact I1 fu _ | exact E8 fu _ | exact Y0 fu _ _ | exact W3 fu _ | exact Z0 fu _ _ | exact K4 fu _ | exact Z6 fu _ _ | exact D1 fu _ | exact N0 _ | refine Le.bind ?_ (fun _=>?_) | refine Le.ite ?_ ?_ | (rename_i x; cases x))
  ·rw [A7,Q5]
   repeat (with_reducible first | exact Le.rfl | exact ih0 _ | exact ih1 _ _ | exact ih2 _ | exact ih3 _ | exact I1 fu _ | exact E8 fu _ | exact Y0 fu _ _ | exact W3 fu _ | exact Z0 fu _ _ | exact K4 fu _ | exact Z6 fu _ _ | exact D1 fu _ | exact N0 _ | refine Le.bind ?_ (fun _=>?_) | refine Le.ite ?_ ?_ | (rename_i x; cases x))
  ·rw [Ae,Qa]
   repeat (with_reducible first | exact Le.rfl | exact ih0 _ | exact ih1 _ _ | exact ih2 _ | exact ih3 _ | exact I1 fu _ | exact E8 fu _ | exact Y0 fu _ _ | exact W3 fu _ | exact Z0 fu _ _ | exact K4 fu _ | exact Z6 fu _ _ | exact D1 fu _ | exact N0 _ | refine Le.bind ?_ (fun _=>?_) | refine Le.ite ?_ ?_ | (rename_i x; cases x))
  ·rw [V6,K6]
   repeat (with_reducible first | exact Le.rfl | exact ih0 _ | exact ih1 _ _ | exact ih2 _ | exact ih3 _ | exact I1 fu _ | exact E8 fu _ | exact Y0 fu _ _ | exact W3 fu _ | exact Z0 fu _ _ | exact K4 fu _ | exact Z6 fu _ _ | exact D1 fu _ | exact N0 _ | refine Le.bind ?_ (fun _=>?_) | refine Le.ite ?_ ?_ | (rename_i x; cases x))
theorem Yg (fu:Nat)(parserParser:A0):Le (C5 fu parserParser) (X3 parserParser):=(On fu).1 parserParser
def R5:Nat→A0→(Str×A0)→(L0×A0)→(List E0)→(List E0)→Option (Pn (E0×A0))
 | 0,_,_,_,_,_=>none
 | fu+1,o02,x1,x7,o2_Params2,o2_Vars=>
  P0 fu [118,97,114] o02>>=fun x9=>
  if x9.1=true then
   Z9 fu x9.2>>=fun x10=>match x10 with
   | .pn nn=>
   some (.pn nn)
   | .ok x10=>
   if (decide ((o2_Vars.length+1) * 257≤140737488355328))=true then
    R5 fu x10.2 x1 x7 o2_Params2 (o2_Vars++[x10.1])
   else none
  else
   C5 fu x9.2>>=fun x11=>match x11 with
   | .pn nn=>
   some (.pn nn)
   | .ok x11=>
   R0 fu [114,101,116,117,114,110] x11.2>>=fun x12=>match x12 with
   | .pn nn=>
   some (.pn nn)
   | .ok x12=>
   W1 fu x12>>=fun x13=>match x13 with
   | .pn nn=>
   some (.pn nn)
   | .ok x13=>
   R0 fu [59] x13.2>>=fun x14=>match x14 with
   | .pn nn=>
   some (.pn nn)
   | .ok x14=>
   R0 fu [125] x14>>=fun x15=>match x15 with
   | .pn nn=>
   some (.pn nn)
   | .ok x15=>
   some (.ok ((E0.mk 6 x1.1 x7.1 0 x13.1 o2_Params2 o2_Vars x11.1),x15))
theorem Om (fu:Nat):(∀ (o02:A0) (x1:Str×A0) (x7:L0×A0) (o2_Params2:List E0) (o2_Vars:List E0),Le (R5 fu o02 x1 x7 o2_Params2 o2_Vars) (C4 o02 x1 x7 o2_Params2 o2_Vars)):=by
 induction fu with
 | zero=>exact fun _ _ _ _ _=>Le.none
 | succ fu ih=>
  have ih0:=ih
  refine fun o02 x1 x7 o2_Params2 o2_Vars=>?_
  ·rw [R5,C4]
   repeat (with_reducible first | exact Le.rfl | exact ih0 _ _ _ _ _ | exact Y0 fu _ _ | exact Ni fu _ | exact Yg fu _ | exact Z0 fu _ _ | exact W3 fu _ | exact N0 _ | refine Le.bind ?_ (fun _=>?_) | refine Le.ite ?_ ?_ | (rename_i x; cases x))
theorem Qn (fu:Nat)(o02:A0)(x1:Str×A0)(x7:L0×A0)(o2_Params2:List E0)(o2_Vars:List E0):Le (R5 fu o02 x1 x7 o2_Params2 o2_Vars) (C4 o02 x1 x7 o2_Params2 o2_Vars):=(Om fu) o02 x1 x7 o2_Params2 o2_Vars
def F8 (fu:Nat)(o01:A0)(x1:Str×A0)(o2_Params1:List E0):Option (Pn (E0×A0)):=
 R0 fu [41] o01>>=fun x5=>match x5 with
 | .pn nn=>
 some (.pn nn)
 | .ok x5=>
 R0 fu [58] x5>>=fun x6=>match x6 with
 | .pn nn=>
 some (.pn nn)
 | .ok x6=>
 K5 fu x6>>=fun x7=>match x7 with
 | .pn nn=>
 some (.pn nn)
 | .ok x7=>
 R0 fu [123] x7.2>>=fun x8=>match x8 with
 | .pn nn=>
 some (.pn nn)
 | .ok x8=>
 R5 fu x8 x1 x7 o2_Params1 []
theorem Sg (fu:Nat)(o01:A0)(x1:Str×A0)(o2_Params1:List E0):Le (F8 fu o01 x1 o2_Params1) (G5 o01 x1 o2_Params1):=by
 unfold F8 G5
 repeat (with_reducible first | exact Le.rfl | exact Z0 fu _ _ | exact Vh fu _ | exact Qn fu _ _ _ _ _ | exact N0 _ | refine Le.bind ?_ (fun _=>?_) | refine Le.ite ?_ ?_ | (rename_i x; cases x))
def S5:Nat→A0→(Str×A0)→(List E0)→Option (Pn (E0×A0))
 | 0,_,_,_=>none
 | fu+1,o0,x1,o2_Params=>
  P0 fu [44] o0>>=fun x16=>
  if x16.1=true then
   Q4 fu 4 x16.2>>=fun x17=>match x17 with
   | .pn nn=>
   some (.pn nn)
   | .ok x17=>
   if (decide ((o2_Params.length+1) * 257≤140737488355328))=true then
    S5 fu x17.2 x1 (o2_Params++[x17.1])
   else none
  else
   F8 fu x16.2 x1 o2_Params
theorem Pm (fu:Nat):(∀ (o0:A0) (x1:Str×A0) (o2_Params:List E0),Le (S5 fu o0 x1 o2_Params) (D4 o0 x1 o2_Params)):=by
 induction fu with
 | zero=>exact fun _ _ _=>Le.none
 | succ fu ih=>
  have ih0:=ih
  refine fun o0 x1 o2_Params=>?_
  ·rw [S5,D4]
   repeat (with_reducible first | exact Le.rfl | exact ih0 _ _ _ | exact Y0 fu _ _ | exact Wb fu _ _ | exact Sg fu _ _ _ | exact N0 _ | refine Le.bind ?_ (fun _=>?_) | refine Le.ite ?_ ?_ | (rename_i x; cases x))
theorem Rn (fu:Nat)(o0:A0)(x1:Str×A0)(o2_Params:List E0):Le (S5 fu o0 x1 o2_Params) (D4 o0 x1 o2_Params):=(Pm fu) o0 x1 o2_Params
def Wc (fu:Nat)(x4:E0×A0)(x1:Str×A0):Option (Pn (E0×A0)):=
 S5 fu x4.2 x1 [x4.1]
theorem Sn (fu:Nat)(x4:E0×A0)(x1:Str×A0):Le (Wc fu x4 x1) (O6 x4 x1):=by
 unfold Wc O6
 repeat (with_reducible first | exact Le.rfl | exact Rn fu _ _ _ | exact N0 _ | refine Le.bind ?_ (fun _=>?_) | refine Le.ite ?_ ?_ | (rename_i x; cases x))
def Se (fu:Nat)(parserParser:A0):Option (Pn (E0×A0)):=
 R3 fu parserParser>>=fun x1=>match x1 with
 | .pn nn=>
 some (.pn nn)
 | .ok x1=>
 R0 fu [40] x1.2>>=fun x2=>match x2 with
 | .pn nn=>
 some (.pn nn)
 | .ok x2=>
 S8 fu x2>>=fun x3=>
 if x3=true then
  Q4 fu 4 x2>>=fun x4=>match x4 with
  | .pn nn=>
  some (.pn nn)
  | .ok x4=>
  if (decide ((0+1) * 257≤140737488355328))=true then
   Wc fu x4 x1
  else none
 else
  F8 fu x2 x1 []
theorem Iq (fu:Nat)(parserParser:A0):Le (Se fu parserParser) (I8 parserParser):=by
 unfold Se I8
 repeat (with_reducible first | exact Le.rfl | exact D1 fu _ | exact Z0 fu _ _ | exact I1 fu _ | exact Wb fu _ _ | exact Sn fu _ _ | exact Sg fu _ _ _ | exact N0 _ | refine Le.bind ?_ (fun _=>?_) | refine Le.ite ?_ ?_ | (rename_i x; cases x))
def Xc (fu:Nat)(parserParser:A0):Option (Pn (E0×Bool×A0)):=
 P0 fu [116,121,112,101] parserParser>>=fun x1=>
 if x1.1=true then
  R3 fu x1.2>>=fun x2=>match x2 with
  | .pn nn=>
  some (.pn nn)
  | .ok x2=>
  R0 fu [61] x2.2>>=fun x3=>match x3 with
  | .pn nn=>
  some (.pn nn)
  | .ok x3=>
  K5 fu x3>>=fun x4=>match x4 with
  | .pn nn=>
  some (.pn nn)
  | .ok x4=>
  R0 fu [59] x4.2>>=fun x5=>match x5 with
  | .pn nn=>
  some (.pn nn)
  | .ok x5=>
  some (.ok ((E0.mk 0 x2.1 x4.1 0 (B0.mk 0 0 [] []) [] [] []),true,x5))
 else
  P0 fu [115,101,99,114,101,116] x1.2>>=fun x6=>
  if x6.1=true then
   Q4 fu 1 x6.2>>=fun x7=>match x7 with
   | .pn nn=>
   some (.pn nn)
   | .ok x7=>
   R0 fu [59] x7.2>>=fun x8=>match x8 with
   | .pn nn=>
   some (.pn nn)
   | .ok x8=>
   some (.ok (x7.1,true,x8))
  else
   P0 fu [112,117,98,108,105,99] x6.2>>=fun x9=>
   if x9.1=true then
    Q4 fu 2 x9.2>>=fun x10=>match x10 with
    | .pn nn=>
    some (.pn nn)
    | .ok x10=>
    R0 fu [59] x10.2>>=fun x11=>match x11 with
    | .pn nn=>
    some (.pn nn)
    | .ok x11=>
    some (.ok (x10.1,true,x11))
   else
    P0 fu [114,97,110,100,111,109] x9.2>>=fun x12=>
    if x12.1=true then
     Q4 fu 3 x12.2>>=fun x13=>match x13 with
     | .pn nn=>
     some (.pn nn)
     | .ok x13=>
     R0 fu [59] x13.2>>=fun x14=>match x14 with
     | .pn nn=>
     some (.pn nn)
     | .ok x14=>
     some (.ok (x13.1,true,x14))
    else
     P0 fu [118,97,114] x12.2>>=fun x15=>
     if x15.1=true then
      Z9 fu x15.2>>=fun x16=>match x16 with
      | .pn nn=>
      some (.pn nn)
      | .ok x16=>
      some (.ok (x16.1,true,x16.2))
     else
      P0 fu [104,97,116,99,104] x15.2>>=fun x17=>
      if x17.1=true then
       Q4 fu 5 x17.2>>=fun x18=>match x18 with
       | .pn nn=>
       some (.pn nn)
       | .ok x18=>
       R0 fu [61] x18.2>>=fun x19=>match x19 with
       | .pn nn=>
       some (.pn nn)
       | .ok x19=>
       W1 fu x19>>=fun x20=>match x20 with
       | .pn nn=>
       some (.pn nn)
       | .ok x20=>
       R0 fu [59] x20.2>>=fun x21=>match x21 with
       | .pn nn=>
       some (.pn nn)
       | .ok x21=>
       some (.ok ((E0.mk x18.1.Kind x18.1.Name x18.1.TypeV x18.1.Init x20.1 x18.1.Params x18.1.Vars x18.1.Body),true,x21))
      else
       P0 fu [102,117,110,99] x17.2>>=fun x22=>
       if x22.1=true then
        Se fu x22.2>>=fun x23=>match x23 with
        | .pn nn=>
        some (.pn nn)
        | .ok x23=>
        some (.ok (x23.1,true,x23.2))
       else
        some (.ok ((E0.mk 0 [] (L0.mk 0 0 0 0 [] [] []) 0 (B0.mk 0 0 [] []) [] [] []),false,x22.2))
theorem Tn (fu:Nat)(parserParser:A0):Le (Xc fu parserParser) (P6 parserParser):=by
 unfold Xc P6
 repeat (with_reducible first | exact Le.rfl | exact Y0 fu _ _ | exact D1 fu _ | exact Z0 fu _ _ | exact Vh fu _ | exact Wb fu _ _ | exact Ni fu _ | exact W3 fu _ | exact Iq fu _ | exact N0 _ | refine Le.bind ?_ (fun _=>?_) | refine Le.ite ?_ ?_ | (rename_i x; cases x))
def A6:Nat→A0→(List E0)→Option (Pn (E1×A0))
 | 0,_,_=>none
 | fu+1,o0,o2_Decls=>
  Xc fu o0>>=fun x1=>match x1 with
  | .pn nn=>
  some (.pn nn)
  | .ok x1=>
  if (!x1.2.1)=true then
   R0 fu [98,101,103,105,110] x1.2.2>>=fun x2=>match x2 with
   | .pn nn=>
   some (.pn nn)
   | .ok x2=>
   C5 fu x2>>=fun x3=>match x3 with
   | .pn nn=>
   some (.pn nn)
   | .ok x3=>
   R0 fu [101,110,100] x3.2>>=fun x4=>match x4 with
   | .pn nn=>
   some (.pn nn)
   | .ok x4=>
   some (.ok ((E1.mk o2_Decls x3.1),x4))
  else
   if (decide ((o2_Decls.length+1) * 257≤140737488355328))=true then
    A6 fu x1.2.2 (o2_Decls++[x1.1])
   else none
theorem Un (fu:Nat):(∀ (o0:A0) (o2_Decls:List E0),Le (A6 fu o0 o2_Decls) (I4 o0 o2_Decls)):=by
 induction fu with
 | zero=>exact fun _ _=>Le.none
 | succ fu ih=>
  have ih0:=ih
  refine fun o0 o2_Decls=>?_
  ·rw [A6,I4]
   repeat (with_reducible first | exact Le.rfl | exact ih0 _ _ | exact Tn fu _ | exact Z0 fu _ _ | exact Yg fu _ | exact N0 _ | refine Le.bind ?_ (fun _=>?_) | refine Le.ite ?_ ?_ | (rename_i x; cases x))
theorem Ip (fu:Nat)(o0:A0)(o2_Decls:List E0):Le (A6 fu o0 o2_Decls) (I4 o0 o2_Decls):=(Un fu) o0 o2_Decls
def Bf (fu:Nat)(parserParser:A0):Option (Pn (E1×A0)):=
 A6 fu parserParser []
theorem Mr (fu:Nat)(parserParser:A0):Le (Bf fu parserParser) (E9 parserParser):=by
 unfold Bf E9
 repeat (with_reducible first | exact Le.rfl | exact Ip fu _ _ | exact N0 _ | refine Le.bind ?_ (fun _=>?_) | refine Le.ite ?_ ?_ | (rename_i x; cases x))
def Rk (fu:Nat)(parserParser:A0)(apiProgram:E1):Option (Pn (A0×E1)):=
 Bf fu parserParser>>=fun x1=>match x1 with
 | .pn nn=>
 some (.pn nn)
 | .ok x1=>
 some (.ok (x1.2,x1.1))
theorem Gy (fu:Nat)(parserParser:A0)(apiProgram:E1):Le (Rk fu parserParser apiProgram) (Gg parserParser apiProgram):=by
 unfold Rk Gg
 repeat (with_reducible first | exact Le.rfl | exact Mr fu _ | exact N0 _ | refine Le.bind ?_ (fun _=>?_) | refine Le.ite ?_ ?_ | (rename_i x; cases x))
def Sk (fu:Nat)(text:Str)(apiProgram:E1):Option (Int×Int×E1):=
 Dt fu text>>=fun x1=>
 if (x1.2.2 != 0)=true then
  some (x1.2.1,x1.2.2,apiProgram)
 else
  Rk fu (A0.mk x1.1 0 ((text).length:Int)) apiProgram>>=fun x2=>match x2 with
  | .pn nn=>
  some (nn,6,apiProgram)
  | .ok x2=>
  if (decide (x2.1.next < ((x2.1.tokens).length:Int)))=true then
   Y9 fu x2.1>>=fun x3=>match x3 with
   | .pn nn=>
   some (nn,6,x2.2)
   | .ok x3=>
   some (0,0,x2.2)
  else
   some (0,0,x2.2)
theorem Hy (fu:Nat)(text:Str)(apiProgram:E1):Le (Sk fu text apiProgram) (Hg text apiProgram):=by
 unfold Sk Hg
 repeat (with_reducible first | exact Le.rfl | exact G14 fu _ | exact Gy fu _ _ | exact Ng fu _ | exact N0 _ | refine Le.bind ?_ (fun _=>?_) | refine Le.ite ?_ ?_ | (rename_i x; cases x))
def Tj (fu:Nat)(k:Int):Option (Bool×Bool):=
 some ((bif (decide (k≥0)) then (decide (k≤6)) else false),(bif (k == 5) then true else (k == 6)))
theorem Yc (fu:Nat)(k:Int):Le (Tj fu k) (Kf k):=by
 unfold Tj Kf
 repeat (with_reducible first | exact Le.rfl | exact N0 _ | refine Le.bind ?_ (fun _=>?_) | refine Le.ite ?_ ?_ | (rename_i x; cases x))
def G1 (fu:Nat)(ok:Bool)(syntaxReport:D0):Option D0:=
 some (D0.mk syntaxReport.nodes syntaxReport.depth (bif syntaxReport.badForm then true else (!ok)) syntaxReport.badName syntaxReport.badNumber)
theorem U1 (fu:Nat)(ok:Bool)(syntaxReport:D0):Le (G1 fu ok syntaxReport) (N1 ok syntaxReport):=by
 unfold G1 N1
 repeat (with_reducible first | exact Le.rfl | exact N0 _ | refine Le.bind ?_ (fun _=>?_) | refine Le.ite ?_ ?_ | (rename_i x; cases x))
def A5:Nat→(List Str)→(List Str)→Int→Option Bool
 | 0,_,_,_=>none
 | fu+1,s1,s2,v13=>
  if (decide (v13 < ((s1).length:Int)))=true then
   idx s1 v13>>=fun x1=>
   idx s2 v13>>=fun x2=>
   if (!(x1 == x2))=true then
    some false
   else
    A5 fu s1 s2 (IntKind.i64.wrap (v13+1))
  else
   some true
theorem Ck (fu:Nat):(∀ (s1:List Str) (s2:List Str) (v13:Int),Le (A5 fu s1 s2 v13) (L2 s1 s2 v13)):=by
 induction fu with
 | zero=>exact fun _ _ _=>Le.none
 | succ fu ih=>
  have ih0:=ih
  refine fun s1 s2 v13=>?_
  ·rw [A5,L2]
   repeat (with_reducible first | exact Le.rfl | exact ih0 _ _ _ | exact N0 _ | refine Le.bind ?_ (fun _=>?_) | refine Le.ite ?_ ?_ | (rename_i x; cases x))
theorem Tk (fu:Nat)(s1:List Str)(s2:List Str)(v13:Int):Le (A5 fu s1 s2 v13) (L2 s1 s2 v13):=(Ck fu) s1 s2 v13
def Kb (fu:Nat)(s1:List Str)(s2:List Str):Option Bool:=
 if (((s1).length:Int) != ((s2).length:Int))=true then
  some false
 else
  A5 fu s1 s2 0
theorem Pa (fu:Nat)(s1:List Str)(s2:List Str):Le (Kb fu s1 s2) (Z3 s1 s2):=by
 unfold Kb Z3
 repeat (with_reducible first | exact Le.rfl | exact Tk fu _ _ _ | exact N0 _ | refine Le.bind ?_ (fun _=>?_) | refine Le.ite ?_ ?_ | (rename_i x; cases x))
mutual
def Zc:Nat→L0→L0→Option Bool
 | 0,_,_=>none
 | fu+1,a,b=>
  (if (bif (bif (bif (bif (a.Kind == b.Kind) then (a.Low == b.Low) else false) then (a.High == b.High) else false) then (a.Size == b.Size) else false) then (a.Name == b.Name) else false)=true then Kb fu a.Names b.Names else some default)>>=fun x1=>
  (if (bif (bif (bif (bif (bif (a.Kind == b.Kind) then (a.Low == b.Low) else false) then (a.High == b.High) else false) then (a.Size == b.Size) else false) then (a.Name == b.Name) else false) then x1 else false)=true then L4 fu a.Of b.Of else some default)>>=fun x2=>
  some (bif (bif (bif (bif (bif (bif (a.Kind == b.Kind) then (a.Low == b.Low) else false) then (a.High == b.High) else false) then (a.Size == b.Size) else false) then (a.Name == b.Name) else false) then x1 else false) then x2 else false)
def L4:Nat→(List L0)→(List L0)→Option Bool
 | 0,_,_=>none
 | fu+1,s1,s2=>
  if (((s1).length:Int) != ((s2).length:Int))=true then
   some false
  else
   E3 fu s1 s2 0
def E3:Nat→(List L0)→(List L0)→Int→Option Bool
 | 0,_,_,_=>none
 | fu+1,s1,s2,v17=>
  if (decide (v17 < ((s1).length:Int)))=true then
   idx s1 v17>>=fun x1=>
   idx s2 v17>>=fun x2=>
   Zc fu x1 x2>>=fun x3=>
   if (!x3)=true then
    some false
   else
    E3 fu s1 s2 (IntKind.i64.wrap (v17+1))
  else
   some true
end
theorem Nv (fu:Nat):(∀ (a:L0) (b:L0),Le (Zc fu a b) (J7 a b))∧(∀ (s1:List L0) (s2:List L0),Le (L4 fu s1 s2) (P3 s1 s2))∧(∀ (s1:List L0) (s2:List L0) (v17:Int),Le (E3 fu s1 s2 v17) (R2 s1 s2 v17)):=by
 induction fu with
 | zero=>exact ⟨fun _ _=>Le.none,fun _ _=>Le.none,fun _ _ _=>Le.none⟩
 | succ fu ih=>
  obtain ⟨ih0,ih1,ih2⟩:=ih
  refine ⟨fun a b=>?_,fun s1 s2=>?_,fun s1 s2 v17=>?_⟩
  ·rw [Zc,J7]
   repeat (with_reducible first | exact Le.rfl | exact ih0 _ _ | exact ih1 _ _ | exact ih2 _ _ _ | exact Pa fu _ _ | exact N0 _ | refine Le.bind ?_ (fun _=>?_) | refine Le.ite ?_ ?_ | (rename_i x; cases x))
  ·rw [L4,P3]
   repeat (with_reducible first | exact Le.rfl | exact ih0 _ _ | exact ih1 _ _ | exact ih2 _ _ _ | exact Pa fu _ _ | exact N0 _ | refine Le.bind ?_ (fun _=>?_) | refine Le.ite ?_ ?_ | (rename_i x; cases x))
  ·rw [E3,R2]
   repeat (with_reducible first | exact Le.rfl | exact ih0 _ _ | exact ih1 _ _ | exact ih2 _ _ _ | exact Pa fu _ _ | exact N0 _ | refine Le.bind ?_ (fun _=>?_) | refine Le.ite ?_ ?_ | (rename_i x; cases x))
theorem Bb (fu:Nat)(a:L0)(b:L0):Le (Zc fu a b) (J7 a b):=(Nv fu).1 a b
def Ba (fu:Nat)(d:Int)(syntaxReport:D0):Option D0:=
 some (D0.mk syntaxReport.nodes (max syntaxReport.depth d) syntaxReport.badForm syntaxReport.badName syntaxReport.badNumber)
theorem J2 (fu:Nat)(d:Int)(syntaxReport:D0):Le (Ba fu d syntaxReport) (K7 d syntaxReport):=by
 unfold Ba K7
 repeat (with_reducible first | exact Le.rfl | exact N0 _ | refine Le.bind ?_ (fun _=>?_) | refine Le.ite ?_ ?_ | (rename_i x; cases x))
def E4 (fu:Nat)(n:Int)(low:Int)(high:Int):Option Bool:=
 some (bif (decide (n≥low)) then (decide (n≤high)) else false)
theorem Y2 (fu:Nat)(n:Int)(low:Int)(high:Int):Le (E4 fu n low high) (F4 n low high):=by
 unfold E4 F4
 repeat (with_reducible first | exact Le.rfl | exact N0 _ | refine Le.bind ?_ (fun _=>?_) | refine Le.ite ?_ ?_ | (rename_i x; cases x))
def D3 (fu:Nat)(ok:Bool)(syntaxReport:D0):Option D0:=
 some (D0.mk syntaxReport.nodes syntaxReport.depth syntaxReport.badForm syntaxReport.badName (bif syntaxReport.badNumber then true else (!ok)))
theorem D2 (fu:Nat)(ok:Bool)(syntaxReport:D0):Le (D3 fu ok syntaxReport) (Z2 ok syntaxReport):=by
 unfold D3 Z2
 repeat (with_reducible first | exact Le.rfl | exact N0 _ | refine Le.bind ?_ (fun _=>?_) | refine Le.ite ?_ ?_ | (rename_i x; cases x))
def Qd:Nat→Str→Int→Option Bool
 | 0,_,_=>none
 | fu+1,s,v6=>
  if (decide (v6 < ((s).length:Int)))=true then
   idx s v6>>=fun x1=>
   Oe fu (x1.toNat:Int)>>=fun x2=>
   (if ((!x2)&&(!(v6 == 0)))=true then idx s v6 else some default)>>=fun x3=>
   (if ((!x2)&&(!(v6 == 0)))=true then Hd fu (x3.toNat:Int) else some default)>>=fun x4=>
   if (bif (!x2) then (bif (v6 == 0) then true else (!x4)) else false)=true then
    some false
   else
    Qd fu s (IntKind.i64.wrap (v6+1))
  else
   some (!(s == []))
theorem Hw (fu:Nat):(∀ (s:Str) (v6:Int),Le (Qd fu s v6) (X7 s v6)):=by
 induction fu with
 | zero=>exact fun _ _=>Le.none
 | succ fu ih=>
  have ih0:=ih
  refine fun s v6=>?_
  ·rw [Qd,X7]
   repeat (with_reducible first | exact Le.rfl | exact ih0 _ _ | exact Sj fu _ | exact Th fu _ | exact N0 _ | refine Le.bind ?_ (fun _=>?_) | refine Le.ite ?_ ?_ | (rename_i x; cases x))
theorem Kx (fu:Nat)(s:Str)(v6:Int):Le (Qd fu s v6) (X7 s v6):=(Hw fu) s v6
def Vn (fu:Nat)(s:Str):Option Bool:=
 Qd fu s 0
theorem V10 (fu:Nat)(s:Str):Le (Vn fu s) (Yi s):=by
 unfold Vn Yi
 repeat (with_reducible first | exact Le.rfl | exact Kx fu _ _ | exact N0 _ | refine Le.bind ?_ (fun _=>?_) | refine Le.ite ?_ ?_ | (rename_i x; cases x))
def Wn (fu:Nat)(s:Str):Option Bool:=
 (if (decide (((s).length:Int)≤12))=true then Vn fu s else some default)>>=fun x1=>
 (if (bif (decide (((s).length:Int)≤12)) then x1 else false)=true then Uh fu s else some default)>>=fun x2=>
 some (bif (bif (decide (((s).length:Int)≤12)) then x1 else false) then (!x2) else false)
theorem W10 (fu:Nat)(s:Str):Le (Wn fu s) (Zi s):=by
 unfold Wn Zi
 repeat (with_reducible first | exact Le.rfl | exact V10 fu _ | exact Zp fu _ | exact N0 _ | refine Le.bind ?_ (fun _=>?_) | refine Le.ite ?_ ?_ | (rename_i x; cases x))
def Gm (fu:Nat)(s:Str):Option Bool:=
 Wn fu s>>=fun x1=>
 some x1
theorem Gz (fu:Nat)(s:Str):Le (Gm fu s) (Ei s):=by
 unfold Gm Ei
 repeat (with_reducible first | exact Le.rfl | exact W10 fu _ | exact N0 _ | refine Le.bind ?_ (fun _=>?_) | refine Le.ite ?_ ?_ | (rename_i x; cases x))
def W5 (fu:Nat)(s:Str)(syntaxReport:D0):Option D0:=
 (if (!syntaxReport.badName)=true then Gm fu s else some default)>>=fun x1=>
 some (D0.mk syntaxReport.nodes syntaxReport.depth syntaxReport.badForm (bif syntaxReport.badName then true else (!x1)) syntaxReport.badNumber)
theorem Z1 (fu:Nat)(s:Str)(syntaxReport:D0):Le (W5 fu s syntaxReport) (D5 s syntaxReport):=by
 unfold W5 D5
 repeat (with_reducible first | exact Le.rfl | exact Gz fu _ | exact N0 _ | refine Le.bind ?_ (fun _=>?_) | refine Le.ite ?_ ?_ | (rename_i x; cases x))
mutual
def Cb:Nat→L0→Int→D0→Option D0
 | 0,_,_,_=>none
 | fu+1,t,depth,syntaxReport=>
  Ba fu depth (D0.mk (IntKind.i64.wrap (syntaxReport.nodes+1)) syntaxReport.depth syntaxReport.badForm syntaxReport.badName syntaxReport.badNumber)>>=fun x1=>
  G1 fu (bif (decide (t.Kind≥0)) then (decide (t.Kind≤4)) else false) x1>>=fun x2=>
  G1 fu (bif (t.Kind == 1) then true else (bif (t.Low == 0) then (t.High == 0) else false)) x2>>=fun x3=>
  G1 fu (bif (t.Kind == 2) then true else (t.Size == 0)) x3>>=fun x4=>
  G1 fu (bif (t.Kind == 4) then true else (t.Name == [])) x4>>=fun x5=>
  G1 fu (bif (t.Kind == 3) then true else (((t.Names).length:Int) == 0)) x5>>=fun x6=>
  if (t.Kind == 2)=true then
   G1 fu (((t.Of).length:Int) == 1) x6>>=fun x7=>
   E4 fu t.Size 1 32>>=fun x8=>
   D3 fu x8 x7>>=fun x9=>
   T8 fu t depth x9
  else
   if (t.Kind == 3)=true then
    G1 fu (bif (decide (((t.Of).length:Int)≥1)) then (((t.Of).length:Int) == ((t.Names).length:Int)) else false) x6>>=fun x14=>
    D3 fu (decide (((t.Of).length:Int)≤32)) x14>>=fun x15=>
    T8 fu t depth x15
   else
    G1 fu (((t.Of).length:Int) == 0) x6>>=fun x16=>
    T8 fu t depth x16
def T8:Nat→L0→Int→D0→Option D0
 | 0,_,_,_=>none
 | fu+1,t,depth,o0=>
  if (t.Kind == 1)=true then
   E4 fu t.Low (-1048576) 1048576>>=fun x10=>
   (if x10=true then E4 fu t.High t.Low 1048576 else some default)>>=fun x11=>
   D3 fu (bif x10 then x11 else false) o0>>=fun x12=>
   Xb fu t depth x12
  else
   Xb fu t depth o0
def Xb:Nat→L0→Int→D0→Option D0
 | 0,_,_,_=>none
 | fu+1,t,depth,o01=>
  if (t.Kind == 4)=true then
   W5 fu t.Name o01>>=fun x13=>
   Yb fu t depth x13
  else
   Yb fu t depth o01
def Yb:Nat→L0→Int→D0→Option D0
 | 0,_,_,_=>none
 | fu+1,t,depth,o02=>
  Zb fu t depth o02 0
def Zb:Nat→L0→Int→D0→Int→Option D0
 | 0,_,_,_,_=>none
 | fu+1,t,depth,o03,v147=>
  if (decide (v147 < ((t.Names).length:Int)))=true then
   idx t.Names v147>>=fun x17=>
   W5 fu x17 o03>>=fun x18=>
   Zb fu t depth x18 (IntKind.i64.wrap (v147+1))
  else
   Ac fu t depth o03 0
def Ac:Nat→L0→Int→D0→Int→Option D0
 | 0,_,_,_,_=>none
 | fu+1,t,depth,o04,v158=>
  if (decide (v158 < ((t.Of).length:Int)))=true then
   idx t.Of v158>>=fun x19=>
   Cb fu x19 (IntKind.i64.wrap (depth+1)) o04>>=fun x20=>
   Ac fu t depth x20 (IntKind.i64.wrap (v158+1))
  else
   some o04
end
theorem Vu (fu:Nat):(∀ (t:L0) (depth:Int) (syntaxReport:D0),Le (Cb fu t depth syntaxReport) (H6 t depth syntaxReport))∧(∀ (t:L0) (depth:Int) (o0:D0),Le (T8 fu t depth o0) (S7 t depth o0))∧(∀ (t:L0) (depth:Int) (o01:D0),Le (Xb fu t depth o01) (T9 t depth o01))∧(∀ (t:L0) (depth:Int) (o02:D0),Le (Yb fu t depth o02) (U9 t depth o02))∧(∀ (t:L0) (depth:Int) (o03:D0) (v147:Int),Le (Zb fu t depth o03 v147) (V9 t depth o03 v147))∧(∀ (t:L0) (depth:Int) (o04:D0) (v158:Int),Le (Ac fu t depth o04 v158) (W9 t depth o04 v158)):=by
 induction fu with
 | zero=>exact ⟨fun _ _ _=>Le.none,fun _ _ _=>Le.none,fun _ _ _=>Le.none,fun _ _ _=>Le.none,fun _ _ _ _=>Le.none,fun _ _ _ _=>Le.none⟩
 | succ fu ih=>
  obtain ⟨ih0,ih1,ih2,ih3,ih4,ih5⟩:=ih
  refine ⟨fun t depth syntaxReport=>?_,fun t depth o0=>?_,fun t depth o01=>?_,fun t depth o02=>?_,fun t depth o03 v147=>?_,fun t depth o04 v158=>?_⟩
  ·rw [Cb,H6]
   repeat (with_reducible first | exact Le.rfl | exact ih0 _ _ _ | exact ih1 _ _ _ | exact ih2 _ _ _ | exact ih3 _ _ _ | exact ih4 _ _ _ _ | exact ih5 _ _ _ _ | exact J2 fu _ _ | exact U1 fu _ _ | exact Y2 fu _ _ _ | exact D2 fu _ _ | exact Z1 fu _ _ | exact N0 _ | refine Le.bind ?_ (fun _=>?_) | refine Le.ite ?_ ?_ | (rename_i x; cases x))
  ·rw [T8,S7]
   repeat (with_reducible first | exact Le.rfl | exact ih0 _ _ _ | exact ih1 _ _ _ | exact ih2 _ _ _ | exact ih3 _ _ _ | exact ih4 _ _ _ _ | exact ih5 _ _ _ _ | exact J2 fu _ _ | exact U1 fu _ _ | exact Y2 fu _ _ _ | exact D2 fu _ _ | exact Z1 fu _ _ | exact N0 _ | refine Le.bind ?_ (fun _=>?_) | refine Le.ite ?_ ?_ | (rename_i x; cases x))
  ·rw [Xb,T9]
   repeat (with_reducible first | exact Le.rfl | exact ih0 _ _ _ | exact ih1 _ _ _ | exact ih2 _ _ _ | exact ih3 _ _ _ | exact ih4 _ _ _ _ | exact ih5 _ _ _ _ | exact J2 fu _ _ | exact U1 fu _ _ | exact Y2 fu _ _ _ | exact D2 fu _ _ | exact Z1 fu _ _ | exact N0 _ | refine Le.bind ?_ (fun _=>?_) | refine Le.ite ?_ ?_ | (rename_i x; cases x))
  ·rw [Yb,U9]
   repeat (with_reducible first | exact Le.rfl | exact ih0 _ _ _ | exact ih1 _ _ _ | exact ih2 _ _ _ | exact ih3 _ _ _ | exact ih4 _ _ _ _ | exact ih5 _ _ _ _ | exact J2 fu _ _ | exact U1 fu _ _ | exact Y2 fu _ _ _ | exact D2 fu _ _ | exact Z1 fu _ _ | exact N0 _ | refine Le.bind ?_ (fun _=>?_) | refine Le.ite ?_ ?_ | (rename_i x; cases x))
  ·rw [Zb,V9]
   repeat (with_reducible first | exact Le.rfl | exact ih0 _ _ _ | exact ih1 _ _ _ | exact ih2 _ _ _ | exact ih3 _ _ _ | exact ih4 _ _ _ _ | exact ih5 _ _ _ _ | exact J2 fu _ _ | exact U1 fu _ _ | exact Y2 fu _ _ _ | exact D2 fu _ _ | exact Z1 fu _ _ | exact N0 _ | refine Le.bind ?_ (fun _=>?_) | refine Le.ite ?_ ?_ | (rename_i x; cases x))
  ·rw [Ac,W9]
   repeat (with_reducible first | exact Le.rfl | exact ih0 _ _ _ | exact ih1 _ _ _ | exact ih2 _ _ _ | exact ih3 _ _ _ | exact ih4 _ _ _ _ | exact ih5 _ _ _ _ | exact J2 fu _ _ | exact U1 fu _ _ | exact Y2 fu _ _ _ | exact D2 fu _ _ | exact Z1 fu _ _ | exact N0 _ | refine Le.bind ?_ (fun _=>?_) | refine Le.ite ?_ ?_ | (rename_i x; cases x))
theorem Ca (fu:Nat)(t:L0)(depth:Int)(syntaxReport:D0):Le (Cb fu t depth syntaxReport) (H6 t depth syntaxReport):=(Vu fu).1 t depth syntaxReport
mutual
def Ad:Nat→B0→B0→Option Bool
 | 0,_,_=>none
 | fu+1,a,b=>
  (if (bif (bif (a.Op == b.Op) then (a.NV == b.NV) else false) then (a.Name == b.Name) else false)=true then M4 fu a.Kids b.Kids else some default)>>=fun x1=>
  some (bif (bif (bif (a.Op == b.Op) then (a.NV == b.NV) else false) then (a.Name == b.Name) else false) then x1 else false)
def M4:Nat→(List B0)→(List B0)→Option Bool
 | 0,_,_=>none
 | fu+1,s1,s2=>
  if (((s1).length:Int) != ((s2).length:Int))=true then
   some false
  else
   F3 fu s1 s2 0
def F3:Nat→(List B0)→(List B0)→Int→Option Bool
 | 0,_,_,_=>none
 | fu+1,s1,s2,v17=>
  if (decide (v17 < ((s1).length:Int)))=true then
   idx s1 v17>>=fun x1=>
   idx s2 v17>>=fun x2=>
   Ad fu x1 x2>>=fun x3=>
   if (!x3)=true then
    some false
   else
    F3 fu s1 s2 (IntKind.i64.wrap (v17+1))
  else
   some true
end
theorem Ov (fu:Nat):(∀ (a:B0) (b:B0),Le (Ad fu a b) (L7 a b))∧(∀ (s1:List B0) (s2:List B0),Le (M4 fu s1 s2) (Q3 s1 s2))∧(∀ (s1:List B0) (s2:List B0) (v17:Int),Le (F3 fu s1 s2 v17) (S2 s1 s2 v17)):=by
 induction fu with
 | zero=>exact ⟨fun _ _=>Le.none,fun _ _=>Le.none,fun _ _ _=>Le.none⟩
 | succ fu ih=>
  obtain ⟨ih0,ih1,ih2⟩:=ih
  refine ⟨fun a b=>?_,fun s1 s2=>?_,fun s1 s2 v17=>?_⟩
  ·rw [Ad,L7]
   repeat (with_reducible first | exact Le.rfl | exact ih0 _ _ | exact ih1 _ _ | exact ih2 _ _ _ | exact N0 _ | refine Le.bind ?_ (fun _=>?_) | refine Le.ite ?_ ?_ | (rename_i x; cases x))
  ·rw [M4,Q3]
   repeat (with_reducible first | exact Le.rfl | exact ih0 _ _ | exact ih1 _ _ | exact ih2 _ _ _ | exact N0 _ | refine Le.bind ?_ (fun _=>?_) | refine Le.ite ?_ ?_ | (rename_i x; cases x))
  ·rw [F3,S2]
   repeat (with_reducible first | exact Le.rfl | exact ih0 _ _ | exact ih1 _ _ | exact ih2 _ _ _ | exact N0 _ | refine Le.bind ?_ (fun _=>?_) | refine Le.ite ?_ ?_ | (rename_i x; cases x))
theorem Iw (fu:Nat)(a:B0)(b:B0):Le (Ad fu a b) (L7 a b):=(Ov fu).1 a b
def Sd (fu:Nat)(op:Int)(v9:Bool):Option Int:=
 if v9=true then
  some 1
 else
  if (op == 5)=true then
   some 2
  else
   if (op == 23)=true then
    some 3
   else
    if (bif (decide (op≥8)) then (decide (op≤22)) else false)=true then
     some 2
    else
     some (-1)
theorem Lx (fu:Nat)(op:Int)(v9:Bool):Le (Sd fu op v9) (X9 op v9):=by
 unfold Sd X9
 repeat (with_reducible first | exact Le.rfl | exact N0 _ | refine Le.bind ?_ (fun _=>?_) | refine Le.ite ?_ ?_ | (rename_i x; cases x))
def Ma (fu:Nat)(op:Int)(v4:Bool):Option Int:=
 if v4=true then
  some 0
 else
  if (op == 4)=true then
   Sd fu op (op == 4)
  else
   if (op == 6)=true then
    Sd fu op (op == 6)
   else
    Sd fu op (op == 7)
theorem Mx (fu:Nat)(op:Int)(v4:Bool):Le (Ma fu op v4) (Y7 op v4):=by
 unfold Ma Y7
 repeat (with_reducible first | exact Le.rfl | exact Lx fu _ _ | exact N0 _ | refine Le.bind ?_ (fun _=>?_) | refine Le.ite ?_ ?_ | (rename_i x; cases x))
def Xn (fu:Nat)(op:Int):Option Int:=
 if (op == 0)=true then
  Ma fu op (op == 0)
 else
  if (op == 1)=true then
   Ma fu op (op == 1)
  else
   if (op == 2)=true then
    Ma fu op (op == 2)
   else
    Ma fu op (op == 3)
theorem Nf (fu:Nat)(op:Int):Le (Xn fu op) (Bj op):=by
 unfold Xn Bj
 repeat (with_reducible first | exact Le.rfl | exact Mx fu _ _ | exact N0 _ | refine Le.bind ?_ (fun _=>?_) | refine Le.ite ?_ ?_ | (rename_i x; cases x))
def Td:Nat→B0→Option Bool
 | 0,_=>none
 | fu+1,o0=>
  if (bif (o0.Op == 4) then true else (o0.Op == 5))=true then
   if (((o0.Kids).length:Int) == 0)=true then
    some false
   else
    idx o0.Kids 0>>=fun x1=>
    Td fu x1
  else
   some (o0.Op == 3)
theorem Jw (fu:Nat):(∀ (o0:B0),Le (Td fu o0) (Z7 o0)):=by
 induction fu with
 | zero=>exact fun _=>Le.none
 | succ fu ih=>
  have ih0:=ih
  refine fun o0=>?_
  ·rw [Td,Z7]
   repeat (with_reducible first | exact Le.rfl | exact ih0 _ | exact N0 _ | refine Le.bind ?_ (fun _=>?_) | refine Le.ite ?_ ?_ | (rename_i x; cases x))
theorem Nx (fu:Nat)(o0:B0):Le (Td fu o0) (Z7 o0):=(Jw fu) o0
def Oj (fu:Nat)(e:B0):Option Bool:=
 Td fu e
theorem N5 (fu:Nat)(e:B0):Le (Oj fu e) (Jg e):=by
 unfold Oj Jg
 repeat (with_reducible first | exact Le.rfl | exact Nx fu _ | exact N0 _ | refine Le.bind ?_ (fun _=>?_) | refine Le.ite ?_ ?_ | (rename_i x; cases x))
mutual
def T7:Nat→B0→Int→D0→Option D0
 | 0,_,_,_=>none
 | fu+1,e,depth,syntaxReport=>
  Ba fu depth (D0.mk (IntKind.i64.wrap (syntaxReport.nodes+1)) syntaxReport.depth syntaxReport.badForm syntaxReport.badName syntaxReport.badNumber)>>=fun x1=>
  Xn fu e.Op>>=fun x2=>
  G1 fu (x2 == ((e.Kids).length:Int)) x1>>=fun x3=>
  G1 fu (bif (e.NV == 0) then true else (e.Op == 0)) x3>>=fun x4=>
  G1 fu (bif (e.Name == []) then true else (bif (e.Op == 3) then true else (e.Op == 4))) x4>>=fun x5=>
  if (bif (e.Op == 4) then true else (e.Op == 5))=true then
   Oj fu e>>=fun x6=>
   G1 fu x6 x5>>=fun x7=>
   Ta fu e depth x7
  else
   Ta fu e depth x5
def Ta:Nat→B0→Int→D0→Option D0
 | 0,_,_,_=>none
 | fu+1,e,depth,o0=>
  if (bif (e.Op == 3) then true else (e.Op == 4))=true then
   W5 fu e.Name o0>>=fun x8=>
   Ua fu e depth x8
  else
   Ua fu e depth o0
def Ua:Nat→B0→Int→D0→Option D0
 | 0,_,_,_=>none
 | fu+1,e,depth,o01=>
  if (e.Op == 0)=true then
   E4 fu e.NV 0 1048576>>=fun x9=>
   D3 fu x9 o01>>=fun x10=>
   Va fu e depth x10
  else
   Va fu e depth o01
def Va:Nat→B0→Int→D0→Option D0
 | 0,_,_,_=>none
 | fu+1,e,depth,o02=>
  Wa fu e depth o02 0
def Wa:Nat→B0→Int→D0→Int→Option D0
 | 0,_,_,_,_=>none
 | fu+1,e,depth,o03,v82=>
  if (decide (v82 < ((e.Kids).length:Int)))=true then
   idx e.Kids v82>>=fun x11=>
   T7 fu x11 (IntKind.i64.wrap (depth+1)) o03>>=fun x12=>
   Wa fu e depth x12 (IntKind.i64.wrap (v82+1))
  else
   some o03
end
theorem Ft (fu:Nat):(∀ (e:B0) (depth:Int) (syntaxReport:D0),Le (T7 fu e depth syntaxReport) (E5 e depth syntaxReport))∧(∀ (e:B0) (depth:Int) (o0:D0),Le (Ta fu e depth o0) (G9 e depth o0))∧(∀ (e:B0) (depth:Int) (o01:D0),Le (Ua fu e depth o01) (H9 e depth o01))∧(∀ (e:B0) (depth:Int) (o02:D0),Le (Va fu e depth o02) (I9 e depth o02))∧(∀ (e:B0) (depth:Int) (o03:D0) (v82:Int),Le (Wa fu e depth o03 v82) (J9 e depth o03 v82)):=by
 induction fu with
 | zero=>exact ⟨fun _ _ _=>Le.none,fun _ _ _=>Le.none,fun _ _ _=>Le.none,fun _ _ _=>Le.none,fun _ _ _ _=>Le.none⟩
 | succ fu ih=>
  obtain ⟨ih0,ih1,ih2,ih3,ih4⟩:=ih
  refine ⟨fun e depth syntaxReport=>?_,fun e depth o0=>?_,fun e depth o01=>?_,fun e depth o02=>?_,fun e depth o03 v82=>?_⟩
  ·rw [T7,E5]
   repeat (with_reducible first | exact Le.rfl | exact ih0 _ _ _ | exact ih1 _ _ _ | exact ih2 _ _ _ | exact ih3 _ _ _ | exact ih4 _ _ _ _ | exact J2 fu _ _ | exact Nf fu _ | exact U1 fu _ _ | exact N5 fu _ | exact Z1 fu _ _ | exact Y2 fu _ _ _ | exact D2 fu _ _ | exact N0 _ | refine Le.bind ?_ (fun _=>?_) | refine Le.ite ?_ ?_ | (rename_i x; cases x))
  ·rw [Ta,G9]
   repeat (with_reducible first | exact Le.rfl | exact ih0 _ _ _ | exact ih1 _ _ _ | exact ih2 _ _ _ | exact ih3 _ _ _ | exact ih4 _ _ _ _ | exact J2 fu _ _ | exact Nf fu _ | exact U1 fu _ _ | exact N5 fu _ | exact Z1 fu _ _ | exact Y2 fu _ _ _ | exact D2 fu _ _ | exact N0 _ | refine Le.bind ?_ (fun _=>?_) | refine Le.ite ?_ ?_ | (rename_i x; cases x))
  ·rw [Ua,H9]
   repeat (with_reducible first | exact Le.rfl | exact ih0 _ _ _ | exact ih1 _ _ _ | exact ih2 _ _ _ | exact ih3 _ _ _ | exact ih4 _ _ _ _ | exact J2 fu _ _ | exact Nf fu _ | exact U1 fu _ _ | exact N5 fu _ | exact Z1 fu _ _ | exact Y2 fu _ _ _ | exact D2 fu _ _ | exact N0 _ | refine Le.bind ?_ (fun _=>?_) | refine Le.ite ?_ ?_ | (rename_i x; cases x))
  ·rw [Va,I9]
   repeat (with_reducible first | exact Le.rfl | exact ih0 _ _ _ | exact ih1 _ _ _ | exact ih2 _ _ _ | exact ih3 _ _ _ | exact ih4 _ _ _ _ | exact J2 fu _ _ | exact Nf fu _ | exact U1 fu _ _ | exact N5 fu _ | exact Z1 fu _ _ | exact Y2 fu _ _ _ | exact D2 fu _ _ | exact N0 _ | refine Le.bind ?_ (fun _=>?_) | refine Le.ite ?_ ?_ | (rename_i x; cases x))
  ·rw [Wa,J9]
   repeat (with_reducible first | exact Le.rfl | exact ih0 _ _ _ | exact ih1 _ _ _ | exact ih2 _ _ _ | exact ih3 _ _ _ | exact ih4 _ _ _ _ | exact J2 fu _ _ | exact Nf fu _ | exact U1 fu _ _ | exact N5 fu _ | exact Z1 fu _ _ | exact Y2 fu _ _ _ | exact D2 fu _ _ | exact N0 _ | refine Le.bind ?_ (fun _=>?_) | refine Le.ite ?_ ?_ | (rename_i x; cases x))
theorem W6 (fu:Nat)(e:B0)(depth:Int)(syntaxReport:D0):Le (T7 fu e depth syntaxReport) (E5 e depth syntaxReport):=(Ft fu).1 e depth syntaxReport
def N7 (fu:Nat)(e:B0)(used:Bool)(syntaxReport:D0):Option D0:=
 (if (!used)=true then Ad fu e (B0.mk 0 0 [] []) else some default)>>=fun x1=>
 if (bif (!used) then x1 else false)=true then
  some syntaxReport
 else
  G1 fu used syntaxReport>>=fun x2=>
  T7 fu e 1 x2>>=fun x3=>
  some x3
theorem H3 (fu:Nat)(e:B0)(used:Bool)(syntaxReport:D0):Le (N7 fu e used syntaxReport) (F5 e used syntaxReport):=by
 unfold N7 F5
 repeat (with_reducible first | exact Le.rfl | exact Iw fu _ _ | exact U1 fu _ _ | exact W6 fu _ _ _ | exact N0 _ | refine Le.bind ?_ (fun _=>?_) | refine Le.ite ?_ ?_ | (rename_i x; cases x))
def Gj (fu:Nat)(v:Int):Option (B2×Bool):=
 if (v == 0)=true then
  some ((B2.mk true true false false false false false false false),true)
 else
  if (v == 1)=true then
   some ((B2.mk true false true true false false false false false),true)
  else
   if (v == 2)=true then
    some ((B2.mk true false true false false false false false false),true)
   else
    if (v == 3)=true then
     some ((B2.mk false true false false false false false false false),true)
    else
     if (v == 4)=true then
      some ((B2.mk false false false false true false false false false),true)
     else
      if (v == 5)=true then
       some ((B2.mk false true false false false false false true true),true)
      else
       if (v == 6)=true then
        some ((B2.mk false true false false true false false true false),true)
       else
        if (v == 7)=true then
         some ((B2.mk false false true false false true false true false),true)
        else
         if (v == 8)=true then
          some ((B2.mk false false false false false false true false false),true)
         else
          some ((B2.mk false false false false false false false false false),false)
theorem Db (fu:Nat)(v:Int):Le (Gj fu v) (Ke v):=by
 unfold Gj Ke
 repeat (with_reducible first | exact Le.rfl | exact N0 _ | refine Le.bind ?_ (fun _=>?_) | refine Le.ite ?_ ?_ | (rename_i x; cases x))
def B6:Nat→J0→D0→Int→Int→Option D0
 | 0,_,_,_,_=>none
 | fu+1,s,o0,last,v58=>
  if (decide (v58 < ((s.Numbers).length:Int)))=true then
   idx s.Numbers v58>>=fun x10=>
   E4 fu x10 0 1048576>>=fun x11=>
   D3 fu (bif x11 then (decide (x10 > last)) else false) o0>>=fun x12=>
   B6 fu s x12 x10 (IntKind.i64.wrap (v58+1))
  else
   some o0
theorem Yn (fu:Nat):(∀ (s:J0) (o0:D0) (last:Int) (v58:Int),Le (B6 fu s o0 last v58) (J4 s o0 last v58)):=by
 induction fu with
 | zero=>exact fun _ _ _ _=>Le.none
 | succ fu ih=>
  have ih0:=ih
  refine fun s o0 last v58=>?_
  ·rw [B6,J4]
   repeat (with_reducible first | exact Le.rfl | exact ih0 _ _ _ _ | exact Y2 fu _ _ _ | exact D2 fu _ _ | exact N0 _ | refine Le.bind ?_ (fun _=>?_) | refine Le.ite ?_ ?_ | (rename_i x; cases x))
theorem Jp (fu:Nat)(s:J0)(o0:D0)(last:Int)(v58:Int):Le (B6 fu s o0 last v58) (J4 s o0 last v58):=(Yn fu) s o0 last v58
def Cf (fu:Nat)(s:J0)(syntaxReport:D0):Option D0:=
 if (s.Verb == 4)=true then
  E4 fu s.NV 0 1048576>>=fun x1=>
  D3 fu x1 syntaxReport>>=fun x2=>
  some x2
 else
  if (s.Verb == 6)=true then
   E4 fu s.NV 0 4096>>=fun x3=>
   D3 fu x3 syntaxReport>>=fun x4=>
   some x4
  else
   if (s.Verb == 7)=true then
    E4 fu s.Low (-1048576) 1048576>>=fun x5=>
    (if x5=true then E4 fu s.High s.Low 1048576 else some default)>>=fun x6=>
    D3 fu (bif (bif x5 then x6 else false) then (decide ((IntKind.i64.wrap (s.High - s.Low)) < 4096)) else false) syntaxReport>>=fun x7=>
    some x7
   else
    if (s.Verb == 8)=true then
     E4 fu ((s.Numbers).length:Int) 1 32>>=fun x8=>
     D3 fu x8 syntaxReport>>=fun x9=>
     B6 fu s x9 (-1) 0
    else
     some syntaxReport
theorem O7 (fu:Nat)(s:J0)(syntaxReport:D0):Le (Cf fu s syntaxReport) (K9 s syntaxReport):=by
 unfold Cf K9
 repeat (with_reducible first | exact Le.rfl | exact Y2 fu _ _ _ | exact D2 fu _ _ | exact Jp fu _ _ _ _ | exact N0 _ | refine Le.bind ?_ (fun _=>?_) | refine Le.ite ?_ ?_ | (rename_i x; cases x))
mutual
def M5:Nat→(List J0)→Int→D0→Option D0
 | 0,_,_,_=>none
 | fu+1,l,nesting,syntaxReport=>
  Da fu l nesting syntaxReport 0
def Da:Nat→(List J0)→Int→D0→Int→Option D0
 | 0,_,_,_,_=>none
 | fu+1,l,nesting,o03,v14=>
  if (decide (v14 < ((l).length:Int)))=true then
   idx l v14>>=fun x1=>
   Ba fu nesting (D0.mk (IntKind.i64.wrap (o03.nodes+1)) o03.depth o03.badForm o03.badName o03.badNumber)>>=fun x2=>
   Gj fu x1.Verb>>=fun x3=>
   G1 fu x3.2 x2>>=fun x4=>
   N7 fu x1.Place x3.1.place x4>>=fun x5=>
   if x3.1.place=true then
    Oj fu x1.Place>>=fun x6=>
    G1 fu x6 x5>>=fun x7=>
    Ea fu l nesting x7 x1 x3 v14
   else
    Ea fu l nesting x5 x1 x3 v14
  else
   some o03
def Ea:Nat→(List J0)→Int→D0→J0→(B2×Bool)→Int→Option D0
 | 0,_,_,_,_,_,_=>none
 | fu+1,l,nesting,o0,x1,x3,v141=>
  N7 fu x1.Value x3.1.value o0>>=fun x8=>
  G1 fu (bif x3.1.name then true else (x1.Name == [])) x8>>=fun x9=>
  if x3.1.name=true then
   W5 fu x1.Name x9>>=fun x10=>
   Fa fu l nesting x10 x1 x3 v141
  else
   Fa fu l nesting x9 x1 x3 v141
def Fa:Nat→(List J0)→Int→D0→J0→(B2×Bool)→Int→Option D0
 | 0,_,_,_,_,_,_=>none
 | fu+1,l,nesting,o01,x1,x3,v142=>
  G1 fu (bif x3.1.args then true else (((x1.Args).length:Int) == 0)) o01>>=fun x11=>
  Ga fu l nesting x11 x1 x3 v142 0
def Ga:Nat→(List J0)→Int→D0→J0→(B2×Bool)→Int→Int→Option D0
 | 0,_,_,_,_,_,_,_=>none
 | fu+1,l,nesting,o02,x1,x3,v143,v84=>
  if (decide (v84 < ((x1.Args).length:Int)))=true then
   idx x1.Args v84>>=fun x12=>
   T7 fu x12 1 o02>>=fun x13=>
   Ga fu l nesting x13 x1 x3 v143 (IntKind.i64.wrap (v84+1))
  else
   G1 fu (bif x3.1.n then true else (x1.NV == 0)) o02>>=fun x14=>
   G1 fu (bif x3.1.bounds then true else (bif (x1.Low == 0) then (x1.High == 0) else false)) x14>>=fun x15=>
   G1 fu (bif x3.1.numbers then true else (((x1.Numbers).length:Int) == 0)) x15>>=fun x16=>
   G1 fu (bif x3.1.thenV then true else (((x1.Then).length:Int) == 0)) x16>>=fun x17=>
   G1 fu (bif x3.1.other then true else (((x1.Else).length:Int) == 0)) x17>>=fun x18=>
   Cf fu x1 x18>>=fun x19=>
   M5 fu x1.Then (IntKind.i64.wrap (nesting+1)) x19>>=fun x20=>
   M5 fu x1.Else (IntKind.i64.wrap (nesting+1)) x20>>=fun x21=>
   Da fu l nesting x21 (IntKind.i64.wrap (v143+1))
end
theorem Yr (fu:Nat):(∀ (l:List J0) (nesting:Int) (syntaxReport:D0),Le (M5 fu l nesting syntaxReport) (R4 l nesting syntaxReport))∧(∀ (l:List J0) (nesting:Int) (o03:D0) (v14:Int),Le (Da fu l nesting o03 v14) (J8 l nesting o03 v14))∧(∀ (l:List J0) (nesting:Int) (o0:D0) (x1:J0) (x3:B2×Bool) (v141:Int),Le (Ea fu l nesting o0 x1 x3 v141) (K8 l nesting o0 x1 x3 v141))∧(∀ (l:List J0) (nesting:Int) (o01:D0) (x1:J0) (x3:B2×Bool) (v142:Int),Le (Fa fu l nesting o01 x1 x3 v142) (L8 l nesting o01 x1 x3 v142))∧(∀ (l:List J0) (nesting:Int) (o02:D0) (x1:J0) (x3:B2×Bool) (v143:Int) (v84:Int),Le (Ga fu l nesting o02 x1 x3 v143 v84) (M8 l nesting o02 x1 x3 v143 v84)):=by
 induction fu with
 | zero=>exact ⟨fun _ _ _=>Le.none,fun _ _ _ _=>Le.none,fun _ _ _ _ _ _=>Le.none,fun _ _ _ _ _ _=>Le.none,fun _ _ _ _ _ _ _=>Le.none⟩
 | succ fu ih=>
  obtain ⟨ih0,ih1,ih2,ih3,ih4⟩:=ih
  refine ⟨fun l nesting syntaxReport=>?_,fun l nesting o03 v14=>?_,fun l nesting o0 x1 x3 v141=>?_,fun l nesting o01 x1 x3 v142=>?_,fun l nesting o02 x1 x3 v143 v84=>?_⟩
  ·rw [M5,R4]
   repeat (with_reducible first | exact Le.rfl | exact ih0 _ _ _ | exact ih1 _ _ _ _ | exact ih2 _ _ _ _ _ _ | exact ih3 _ _ _ _ _ _ | exact ih4 _ _ _ _ _ _ _ | exact J2 fu _ _ | exact Db fu _ | exact U1 fu _ _ | exact H3 fu _ _ _ | exact N5 fu _ | exact Z1 fu _ _ | exact W6 fu _ _ _ | exact O7 fu _ _ | exact N0 _ | refine Le.bind ?_ (fun _=>?_) | refine Le.ite ?_ ?_ | (rename_i x; cases x))
  ·rw [Da,J8]
   repeat (with_reducible first | exact Le.rfl | exact ih0 _ _ _ | exact ih1 _ _ _ _ | exact ih2 _ _ _ _ _ _ | exact ih3 _ _ _ _ _ _ | exact ih4 _ _ _ _ _ _ _ | exact J2 fu _ _ | exact Db fu _ | exact U1 fu _ _ | exact H3 fu _ _ _ | exact N5 fu _ | exact Z1 fu _ _ | exact W6 fu _ _ _ | exact O7 fu _ _ | exact N0 _ | refine Le.bind ?_ (fun _=>?_) | refine Le.ite ?_ ?_ | (rename_i x; cases x))
  ·rw [Ea,K8]
   repeat (with_reducible first | exact Le.rfl | exact ih0 _ _ _ | exact ih1 _ _ _ _ | exact ih2 _ _ _ _ _ _ | exact ih3 _ _ _ _ _ _ | exact ih4 _ _ _ _ _ _ _ | exact J2 fu _ _ | exact Db fu _ | exact U1 fu _ _ | exact H3 fu _ _ _ | exact N5 fu _ | exact Z1 fu _ _ | exact W6 fu _ _ _ | exact O7 fu _ _ | exact N0 _ | refine Le.bind ?_ (fun _=>?_) | refine Le.ite ?_ ?_ | (rename_i x; cases x))
  ·rw [Fa,L8]
   repeat (with_reducible first | exact Le.rfl | exact ih0 _ _ _ | exact ih1 _ _ _ _ | exact ih2 _ _ _ _ _ _ | exact ih3 _ _ _ _ _ _ | exact ih4 _ _ _ _ _ _ _ | exact J2 fu _ _ | exact Db fu _ | exact U1 fu _ _ | exact H3 fu _ _ _ | exact N5 fu _ | exact Z1 fu _ _ | exact W6 fu _ _ _ | exact O7 fu _ _ | exact N0 _ | refine Le.bind ?_ (fun _=>?_) | refine Le.ite ?_ ?_ | (rename_i x; cases x))
  ·rw [Ga,M8]
   repeat (with_reducible first | exact Le.rfl | exact ih0 _ _ _ | exact ih1 _ _ _ _ | exact ih2 _ _ _ _ _ _ | exact ih3 _ _ _ _ _ _ | exact ih4 _ _ _ _ _ _ _ | exact J2 fu _ _ | exact Db fu _ | exact U1 fu _ _ | exact H3 fu _ _ _ | exact N5 fu _ | exact Z1 fu _ _ | exact W6 fu _ _ _ | exact O7 fu _ _ | exact N0 _ | refine Le.bind ?_ (fun _=>?_) | refine Le.ite ?_ ?_ | (rename_i x; cases x))
theorem F6 (fu:Nat)(l:List J0)(nesting:Int)(syntaxReport:D0):Le (M5 fu l nesting syntaxReport) (R4 l nesting syntaxReport):=(Yr fu).1 l nesting syntaxReport
mutual
def X6:Nat→(List E0)→D0→Option D0
 | 0,_,_=>none
 | fu+1,l,syntaxReport=>
  Ha fu l syntaxReport 0
def Ha:Nat→(List E0)→D0→Int→Option D0
 | 0,_,_,_=>none
 | fu+1,l,o03,v15=>
  if (decide (v15 < ((l).length:Int)))=true then
   idx l v15>>=fun x1=>
   Tj fu x1.Kind>>=fun x2=>
   G1 fu x2.1 (D0.mk (IntKind.i64.wrap (o03.nodes+1)) o03.depth o03.badForm o03.badName o03.badNumber)>>=fun x3=>
   (if (!x2.1)=true then Zc fu x1.TypeV (L0.mk 0 0 0 0 [] [] []) else some default)>>=fun x4=>
   if (bif x2.1 then true else (!x4))=true then
    Cb fu x1.TypeV 1 x3>>=fun x5=>
    Ia fu l x5 x1 x2 v15
   else
    Ia fu l x3 x1 x2 v15
  else
   some o03
def Ia:Nat→(List E0)→D0→E0→(Bool×Bool)→Int→Option D0
 | 0,_,_,_,_,_=>none
 | fu+1,l,o0,x1,x2,v151=>
  W5 fu x1.Name o0>>=fun x6=>
  N7 fu x1.Value x2.2 x6>>=fun x7=>
  G1 fu (bif (x1.Kind == 4) then true else (x1.Init == 0)) x7>>=fun x8=>
  E4 fu x1.Init (-1048576) 1048576>>=fun x9=>
  (if (x9&&(!(x1.TypeV.Kind != 0)))=true then E4 fu x1.Init 0 1 else some default)>>=fun x10=>
  D3 fu (bif x9 then (bif (x1.TypeV.Kind != 0) then true else x10) else false) x8>>=fun x11=>
  G1 fu (bif (x1.Kind == 6) then true else (bif (bif (((x1.Params).length:Int) == 0) then (((x1.Vars).length:Int) == 0) else false) then (((x1.Body).length:Int) == 0) else false)) x11>>=fun x12=>
  Ja fu l x12 x1 v151 0
def Ja:Nat→(List E0)→D0→E0→Int→Int→Option D0
 | 0,_,_,_,_,_=>none
 | fu+1,l,o01,x1,v152,v109=>
  if (decide (v109 < ((x1.Params).length:Int)))=true then
   idx x1.Params v109>>=fun x13=>
   G1 fu (bif (x13.Kind == 4) then (x13.Init == 0) else false) o01>>=fun x14=>
   Ja fu l x14 x1 v152 (IntKind.i64.wrap (v109+1))
  else
   Ka fu l o01 x1 v152 0
def Ka:Nat→(List E0)→D0→E0→Int→Int→Option D0
 | 0,_,_,_,_,_=>none
 | fu+1,l,o02,x1,v153,v127=>
  if (decide (v127 < ((x1.Vars).length:Int)))=true then
   idx x1.Vars v127>>=fun x15=>
   G1 fu (x15.Kind == 4) o02>>=fun x16=>
   Ka fu l x16 x1 v153 (IntKind.i64.wrap (v127+1))
  else
   X6 fu x1.Params o02>>=fun x17=>
   X6 fu x1.Vars x17>>=fun x18=>
   M5 fu x1.Body 1 x18>>=fun x19=>
   Ha fu l x19 (IntKind.i64.wrap (v153+1))
end
theorem Zr (fu:Nat):(∀ (l:List E0) (syntaxReport:D0),Le (X6 fu l syntaxReport) (Z4 l syntaxReport))∧(∀ (l:List E0) (o03:D0) (v15:Int),Le (Ha fu l o03 v15) (N8 l o03 v15))∧(∀ (l:List E0) (o0:D0) (x1:E0) (x2:Bool×Bool) (v151:Int),Le (Ia fu l o0 x1 x2 v151) (O8 l o0 x1 x2 v151))∧(∀ (l:List E0) (o01:D0) (x1:E0) (v152:Int) (v109:Int),Le (Ja fu l o01 x1 v152 v109) (P8 l o01 x1 v152 v109))∧(∀ (l:List E0) (o02:D0) (x1:E0) (v153:Int) (v127:Int),Le (Ka fu l o02 x1 v153 v127) (Q8 l o02 x1 v153 v127)):=by
 induction fu with
 | zero=>exact ⟨fun _ _=>Le.none,fun _ _ _=>Le.none,fun _ _ _ _ _=>Le.none,fun _ _ _ _ _=>Le.none,fun _ _ _ _ _=>Le.none⟩
 | succ fu ih=>
  obtain ⟨ih0,ih1,ih2,ih3,ih4⟩:=ih
  refine ⟨fun l syntaxReport=>?_,fun l o03 v15=>?_,fun l o0 x1 x2 v151=>?_,fun l o01 x1 v152 v109=>?_,fun l o02 x1 v153 v127=>?_⟩
  ·rw [X6,Z4]
   repeat (with_reducible first | exact Le.rfl | exact ih0 _ _ | exact ih1 _ _ _ | exact ih2 _ _ _ _ _ | exact ih3 _ _ _ _ _ | exact ih4 _ _ _ _ _ | exact Yc fu _ | exact U1 fu _ _ | exact Bb fu _ _ | exact Ca fu _ _ _ | exact Z1 fu _ _ | exact H3 fu _ _ _ | exact Y2 fu _ _ _ | exact D2 fu _ _ | exact F6 fu _ _ _ | exact N0 _ | refine Le.bind ?_ (fun _=>?_) | refine Le.ite ?_ ?_ | (rename_i x; cases x))
  ·rw [Ha,N8]
   repeat (with_reducible first | exact Le.rfl | exact ih0 _ _ | exact ih1 _ _ _ | exact ih2 _ _ _ _ _ | exact ih3 _ _ _ _ _ | exact ih4 _ _ _ _ _ | exact Yc fu _ | exact U1 fu _ _ | exact Bb fu _ _ | exact Ca fu _ _ _ | exact Z1 fu _ _ | exact H3 fu _ _ _ | exact Y2 fu _ _ _ | exact D2 fu _ _ | exact F6 fu _ _ _ | exact N0 _ | refine Le.bind ?_ (fun _=>?_) | refine Le.ite ?_ ?_ | (rename_i x; cases x))
  ·rw [Ia,O8]
   repeat (with_reducible first | exact Le.rfl | exact ih0 _ _ | exact ih1 _ _ _ | exact ih2 _ _ _ _ _ | exact ih3 _ _ _ _ _ | exact ih4 _ _ _ _ _ | exact Yc fu _ | exact U1 fu _ _ | exact Bb fu _ _ | exact Ca fu _ _ _ | exact Z1 fu _ _ | exact H3 fu _ _ _ | exact Y2 fu _ _ _ | exact D2 fu _ _ | exact F6 fu _ _ _ | exact N0 _ | refine Le.bind ?_ (fun _=>?_) | refine Le.ite ?_ ?_ | (rename_i x; cases x))
  ·rw [Ja,P8]
   repeat (with_reducible first | exact Le.rfl | exact ih0 _ _ | exact ih1 _ _ _ | exact ih2 _ _ _ _ _ | exact ih3 _ _ _ _ _ | exact ih4 _ _ _ _ _ | exact Yc fu _ | exact U1 fu _ _ | exact Bb fu _ _ | exact Ca fu _ _ _ | exact Z1 fu _ _ | exact H3 fu _ _ _ | exact Y2 fu _ _ _ | exact D2 fu _ _ | exact F6 fu _ _ _ | exact N0 _ | refine Le.bind ?_ (fun _=>?_) | refine Le.ite ?_ ?_ | (rename_i x; cases x))
  ·rw [Ka,Q8]
   repeat (with_reducible first | exact Le.rfl | exact ih0 _ _ | exact ih1 _ _ _ | exact ih2 _ _ _ _ _ | exact ih3 _ _ _ _ _ | exact ih4 _ _ _ _ _ | exact Yc fu _ | exact U1 fu _ _ | exact Bb fu _ _ | exact Ca fu _ _ _ | exact Z1 fu _ _ | exact H3 fu _ _ _ | exact Y2 fu _ _ _ | exact D2 fu _ _ | exact F6 fu _ _ _ | exact N0 _ | refine Le.bind ?_ (fun _=>?_) | refine Le.ite ?_ ?_ | (rename_i x; cases x))
theorem Gt (fu:Nat)(l:List E0)(syntaxReport:D0):Le (X6 fu l syntaxReport) (Z4 l syntaxReport):=(Zr fu).1 l syntaxReport
def Uk (fu:Nat)(p:E1):Option D0:=
 X6 fu p.Decls (D0.mk 0 0 false false false)>>=fun x1=>
 M5 fu p.Body 1 x1>>=fun x2=>
 some x2
theorem Iy (fu:Nat)(p:E1):Le (Uk fu p) (Kg p):=by
 unfold Uk Kg
 repeat (with_reducible first | exact Le.rfl | exact Gt fu _ _ | exact F6 fu _ _ _ | exact N0 _ | refine Le.bind ?_ (fun _=>?_) | refine Le.ite ?_ ?_ | (rename_i x; cases x))
def Xh (fu:Nat)(syntaxReport:D0):Option Int:=
 if (bif (decide (syntaxReport.nodes > 1024)) then true else (decide (syntaxReport.depth > 12)))=true then
  some 4
 else
  if syntaxReport.badForm=true then
   some 1
  else
   if syntaxReport.badName=true then
    some 7
   else
    if syntaxReport.badNumber=true then
     some 3
    else
     some 0
theorem Wu (fu:Nat)(syntaxReport:D0):Le (Xh fu syntaxReport) (Uc syntaxReport):=by
 unfold Xh Uc
 repeat (with_reducible first | exact Le.rfl | exact N0 _ | refine Le.bind ?_ (fun _=>?_) | refine Le.ite ?_ ?_ | (rename_i x; cases x))
def Zn (fu:Nat)(p:E1):Option Int:=
 Uk fu p>>=fun x1=>
 Xh fu x1>>=fun x2=>
 some x2
theorem X10 (fu:Nat)(p:E1):Le (Zn fu p) (Cj p):=by
 unfold Zn Cj
 repeat (with_reducible first | exact Le.rfl | exact Iy fu _ | exact Wu fu _ | exact N0 _ | refine Le.bind ?_ (fun _=>?_) | refine Le.ite ?_ ?_ | (rename_i x; cases x))
def Ao (fu:Nat)(text:Str):Option (E1×Int×Int):=
 Sk fu text (E1.mk [] [])>>=fun x1=>
 if (x1.2.1 != 0)=true then
  some ((E1.mk [] []),x1.1,x1.2.1)
 else
  Zn fu x1.2.2>>=fun x2=>
  if (x2 != 0)=true then
   some ((E1.mk [] []),0,x2)
  else
   some (x1.2.2,0,0)
theorem Y10 (fu:Nat)(text:Str):Le (Ao fu text) (Dj text):=by
 unfold Ao Dj
 repeat (with_reducible first | exact Le.rfl | exact Hy fu _ _ | exact X10 fu _ | exact N0 _ | refine Le.bind ?_ (fun _=>?_) | refine Le.ite ?_ ?_ | (rename_i x; cases x))
def Ud:Nat→Str→Str→Str→Str→Str→Str→Str→Int→Option (E1×Int)
 | 0,_,_,_,_,_,_,_,_=>none
 | fu+1,text,list,x3,x4,x5,x6,x7,v58=>
  if (decide (v58 < (([(P1.mk [60,65,62] x3),(P1.mk [60,66,62] x4),(P1.mk [60,84,62] x5),(P1.mk [60,97,62] x6),(P1.mk [60,98,62] x7),(P1.mk [60,78,62] list)]).length:Int)))=true then
   idx [(P1.mk [60,65,62] x3),(P1.mk [60,66,62] x4),(P1.mk [60,84,62] x5),(P1.mk [60,97,62] x6),(P1.mk [60,98,62] x7),(P1.mk [60,78,62] list)] v58>>=fun x8=>
   Qq text x8.x0 x8.x1>>=fun x9=>
   Ud fu x9 list x3 x4 x5 x6 x7 (IntKind.i64.wrap (v58+1))
  else
   Ao fu text>>=fun x10=>
   if (x10.2.2 != 0)=true then
    some ((E1.mk [] []),x10.2.2)
   else
    some (x10.1,0)
theorem Kw (fu:Nat):(∀ (text:Str) (list:Str) (x3:Str) (x4:Str) (x5:Str) (x6:Str) (x7:Str) (v58:Int),Le (Ud fu text list x3 x4 x5 x6 x7 v58) (A8 text list x3 x4 x5 x6 x7 v58)):=by
 induction fu with
 | zero=>exact fun _ _ _ _ _ _ _ _=>Le.none
 | succ fu ih=>
  have ih0:=ih
  refine fun text list x3 x4 x5 x6 x7 v58=>?_
  ·rw [Ud,A8]
   repeat (with_reducible first | exact Le.rfl | exact ih0 _ _ _ _ _ _ _ _ | exact Y10 fu _ | exact N0 _ | refine Le.bind ?_ (fun _=>?_) | refine Le.ite ?_ ?_ | (rename_i x; cases x))
theorem Ox (fu:Nat)(text:Str)(list:Str)(x3:Str)(x4:Str)(x5:Str)(x6:Str)(x7:Str)(v58:Int):Le (Ud fu text list x3 x4 x5 x6 x7 v58) (A8 text list x3 x4 x5 x6 x7 v58):=(Kw fu) text list x3 x4 x5 x6 x7 v58
def Vf (fu:Nat)(a:Int)(b:Int)(x1:K0×Int)(list:Str):Option (E1×Int):=
 Ri (IntKind.i64.wrap (a - 1))>>=fun x3=>
 Ri (IntKind.i64.wrap (b - 1))>>=fun x4=>
 Ri (IntKind.i64.wrap (a * b))>>=fun x5=>
 Ri a>>=fun x6=>
 Ri b>>=fun x7=>
 Ud fu x1.1.text list x3 x4 x5 x6 x7 0
theorem Px (fu:Nat)(a:Int)(b:Int)(x1:K0×Int)(list:Str):Le (Vf fu a b x1 list) (Gd a b x1 list):=by
 unfold Vf Gd
 repeat (with_reducible first | exact Le.rfl | exact Ox fu _ _ _ _ _ _ _ _ | exact N0 _ | refine Le.bind ?_ (fun _=>?_) | refine Le.ite ?_ ?_ | (rename_i x; cases x))
def Tg (fu:Nat)(family:Str)(a:Int)(b:Int):Option (E1×Int):=
 Mj fu family a b>>=fun x1=>
 if (x1.2 != 0)=true then
  some ((E1.mk [] []),x1.2)
 else
  if (x1.1.name == [115,101,97,114,99,104])=true then
   Cm fu a b>>=fun x2=>
   Vf fu a b x1 x2
  else
   Vf fu a b x1 []
theorem Ls (fu:Nat)(family:Str)(a:Int)(b:Int):Le (Tg fu family a b) (Z5 family a b):=by
 unfold Tg Z5
 repeat (with_reducible first | exact Le.rfl | exact Ks fu _ _ _ | exact Cz fu _ _ | exact Px fu _ _ _ _ | exact N0 _ | refine Le.bind ?_ (fun _=>?_) | refine Le.ite ?_ ?_ | (rename_i x; cases x))
def Sp (fu:Nat):Option Bool:=
 Li fu [100,105,103,105,116,115] 3 4>>=fun x1=>
 Li fu [115,101,97,114,99,104] 10 3>>=fun x2=>
 Tg fu [112,97,114,105,116,121] 4 0>>=fun x3=>
 some (bif (bif (bif (bif (bif (bif (bif (bif (x1.2.2 == 0) then (x2.2.2 == 0) else false) then (x3.2 == 0) else false) then (x1.1 == 4) else false) then (x1.2.1 == 2) else false) then (x2.1 == 3) else false) then (x2.2.1 == 1) else false) then (((x3.1.Decls).length:Int) == 1) else false) then (((x3.1.Body).length:Int) == 1) else false)
theorem Q11 (fu:Nat):Le (Sp fu ) (Rf ):=by
 unfold Sp Rf
 repeat (with_reducible first | exact Le.rfl | exact Bz fu _ _ _ | exact Ls fu _ _ _ | exact N0 _ | refine Le.bind ?_ (fun _=>?_) | refine Le.ite ?_ ?_ | (rename_i x; cases x))
end Go.Proofs.YtbaijagfgceilaaGreatDoor

