/- A part of the proof of InterpSpaces. -/
import Derived.Test.YtnabbmegmkdehaaGreatDoorAmC
import Derived.Recover
import Derived.Test.YtnabbmegmkdehaaGreatDoorAmB
import Derived.Scope
import Derived.Laws.CopyRow
import Derived.Test.YtnabbmegmkdehaaGreatDoorAmD
import Derived.Below
set_option linter.defProp false
namespace Go.Am
variable {x y z:A}{b:Bool}{cnd:Cnd}{env env':Env}{Q:Env->F0->Prop}{H H' cH:F0}{fr:Fr}{g:FuncId}{ls:List (List Int)}{xs:List A}{v:List Bool}{ds:List D}{L l l':List Oper}{rows:List Row}{M:Mem}{B i len m n off p sz t γ:Nat}{G:Nat->Value}{o op:Oper}{W:Option Bool}{d:Option Nat}{c:Prop}{α β:Type}{e:TypeId}{w:World}
def cq {F:Fx}{f:FuncId}(hc:B4 F.C f xs [] (Ret [] x))(h:(Ad F.C L o env,R2 0 xs)=(some (d,f,xs),true))(k:K0 F L l (put env d x) H Q):K0 F L (o::l) env H Q:=by
 simp only[zqh]at h;exact c' hc h.1 h.2 k
def rq {F:Fx}{rs:List ResultVar}(h:(Y1c F.C.T rs env H,tkH H' H,okB F.K [x] H')=(some x,H',true)):Wr F rs (Ret H' x) .ret env H:=by
 simp only[zqh]at h;exact rt' h.1 h.2.1 h.2.2
def T26 (op:BinOp)(b:Int):Bool:=match op with
 |.shl |.shr=>decide (0<=b)
 |.quo |.rem=>!(b==0)
 |_=>true
def U26 (op:BinOp)(a b:List UInt8):Bool:=match op with
 |.add=>decide (a.length+b.length<=maxLen)
 |_=>true
def inB (n:Int)(len:Nat):Bool:=decide (0<=n/\n<(len:Int))
def I1n (T:TT)(t:Nat)(x y:A):Bool:=
 match Z1 T t,y with
 |some i,.d (.int _ n)=>match i.u,x with
  |.arr len _,_=>inB n len
  |.sl _,.rsl _ _ len _=>inB n len
  |.sl _,.d (.csl _ _ _ len)=>inB n len
  |_,_=>true
 |_,_=>true
def J20 (bo:BinOp)(x y:A):Bool:=match x,y with
 |.d (.int _ _),.d (.int _ b)=>T26 bo b
 |.d (.str a),.d (.str b)=>U26 bo a b
 |_,_=>true
def U1d (T:TT)(GL:GT)(op:Op)(env:Env):Bool:=
 match op with
 |.binOp bo _ x y _=>J20 bo (ev GL env x) (ev GL env y)
 |.indexAddr t x y=>I1n T t (ev GL env x) (ev GL env y)
 |.index t x y=>I1n T t (ev GL env x) (ev GL env y)
 |_=>true
def Il (h:U2 x=some (c,y)):c:=by
 simp only[U2,zqb,zqh]at h;rw[<-h.1];trivial
def Z18 {o:Option A}(h:(o.map λz=>(True,z))=some (c,y)):c:=by
 cases o with
 |none=>cases h
 |some z=>
  simp only[zqt,zqb,zqh]at h;rw[<-h.1];trivial
def N29 {op:BinOp}{k k':IntKind}{a b:Int}(h:R1c op k a k' b=some (c,x))(d:T26 op b=true):c:=by
 unfold R1c at h;cases op<;>simp only[T26,decide_eq_true_eq,Bool.not_eq_true',zqn]at d<;>simp only at h
 case shl=>simp only[zqb,zqh]at h;rw[<-h.1];exact d
 case shr=>simp only[zqb,zqh]at h;rw[<-h.1];exact d
 all_goals
  obtain⟨_,h⟩:=B7 h
  first
   |exact Il h
   |(simp only[zqb,zqh]at h;rw[<-h.1];exact d)
   |cases h
def O29 {op:BinOp}{a b:List UInt8}(h:S1c op a b=some (c,x))(d:U26 op a b=true):c:=by
 unfold S1c at h;cases op<;>simp only[U26,decide_eq_true_eq]at d<;>simp only at h
 all_goals
  first
   |exact Il h
   |(simp only[zqb,zqh]at h;rw[<-h.1];exact d)
   |cases h
def P2c {u:TU}{o:Option Bool}(h:eqA u x y o=some (c,z)):c:=by
 unfold eqA at h;split at h
 ·cases h
 ·split at h<;>first|exact Il h|cases h
def G2b {T:TT}{op:BinOp}(h:T1c T op t x y=some (c,z))
  (b:J20 op x y=true):c:=by
 unfold T1c at h;split at h
 ·exact N29 h b
 ·exact O29 h b
 ·split at h
  ·exact P2c h
  ·cases h
def V26 {T:TT}{e:Nat}{n:Int}(h:N1j T len e n x=some (c,y))(b:inB n len=true):c:=by
 unfold N1j at h;split at h
 ·split at h
  ·obtain⟨_,h⟩:=B7 h;simp only[zqb,zqh]at h;rw[<-h.1];simpa[inB]using b
  ·cases h
 ·cases h
def H23 {T:TT}(h:Ey T t x y=some (c,z))(b:I1n T t x y=true):c:=by
 unfold Ey at h;unfold I1n at b;split at h
 ·rename_i i _ n B;rw[B]at b;simp only at b;split at h
  ·rename_i d e r;rw[r]at b;exact V26 h b
  ·rename_i e o u d v r;rw[r]at b;split at h
   ·simp only[zqb,zqh]at h;rw[<-h.1];simpa[inB]using b
   ·cases h
  ·rename_i e g k u d r;rw[r]at b;split at h
   ·obtain⟨_,h⟩:=B7 h;simp only[zqb,zqh]at h;rw[<-h.1];simpa[inB]using b
   ·cases h
  ·cases h
 ·cases h
def W26 {T:TT}(h:U1c T t x y=some (c,z))(b:I1n T t x y=true):c:=by
 unfold U1c at h;unfold I1n at b;split at h
 ·rename_i i r _ n v;rw[v]at b;simp only at b;split at h
  ·rename_i d e u;rw[u]at b;split at h
   ·rename_i j B;cases hr:Kq j (r.drop (n.toNat*j.size))with
    |none=>rw[hr]at h;cases h
    |some w=>
     rw[hr]at h;simp only[zqt,zqb,zqh]at h;rw[<-h.1];simpa[inB]using b
   ·cases h
  ·cases h
 ·cases h
def A2d {op:UnOp}(h:unA op x=some (c,z)):c:=by
 unfold unA at h;split at h<;>first|exact Il h|cases h
def H2b {T:TT}{s:Nat}(h:L1j T s t x=some (c,z)):c:=by
 unfold L1j at h;split at h
 ·split at h<;>first|exact Il h|cases h
 ·split at h<;>first|exact Il h|cases h
 ·cases h
def I23 {T:TT}{b:Builtin}{d:List Nat}(h:Y19 T b d xs=some (c,z)):c:=by
 unfold Y19 at h;split at h<;>first|exact Z18 h|cases h
def B2d {d:Bool}(h:(bif b then U2 x else bif d then U2 y else none)=some (c,z)):c:=by
 cases b with
 |true=>exact Il h
 |false=>exact Il (B7 h).2
def J1n {T:TT}{GL:GT}{op:Op}(h:opA T GL op env H=some (c,x))(b:U1d T GL op env=true):c:=by
 unfold opA at h;split at h
 all_goals
  first
   |exact G2b h b
   |exact A2d h
   |exact H2b h
   |exact I23 h
   |exact Il h
   |exact Z18 h
   |exact B2d h
   |exact H23 h b
   |exact W26 h b
   |(cases h;done)
   |skip
 all_goals (split at h<;>first|exact Il h|exact Z18 h|(cases h;done)|(split at h<;>first|exact Il h|exact Z18 h|(cases h;done)|(split at h<;>first|exact Il h|exact Z18 h|(cases h;done)|(split at h<;>first|exact Il h|exact Z18 h|(cases h;done)))))
def J23 (C:Cx)(L:List Oper)(o:Oper)(env:Env):Option (Option Nat×Nat×Nat×List A):=
 match K1 L env o,o.op,O3 o with
 |some true,.buildSlice t len parts,some d=>match Z1 C.T t with
  |some i=>match i.u with
   |.sl e=>match Z1 C.T e with
    |some j=>bif Nat.ble len 65536&&Nat.ble j.size 64 then(match Ks (λi=>some (i*j.size,j.size)) (List.replicate (len*j.size) .junk) (parts.toList.map λp=>(p.1,ev C.GL env p.2))with
     |some out=>some (d,e,len,out)
     |none=>none)else none
    |none=>none
   |_=>none
  |none=>none
 |_,_,_=>none
def K0.bm {F:Fx}(hC:T1 F.C){e:Nat}{cs:List A}
  (h:J23 F.C L o env=some (d,e,n,cs)) (y:Dp H (.row cs e)=some (p,H')) (k:K0 F L l (put env d (.rsl p 0 n n)) H' Q):K0 F L (o::l) env H Q:=by
 obtain⟨rfl,rfl⟩:=Nh y;unfold J23 at h;split at h
 ·rename_i t b c dd hw ho hd;split at h
  ·rename_i i ht;split at h
   ·rename_i e' hu;split at h
    ·rename_i j hj;cases hb:Nat.ble b 65536&&Nat.ble j.size 64 with
     |false=>rw[hb]at h;cases h
     |true=>
      rw[hb]at h;simp only[zqi]at hb;have b1:=Nat.le_of_ble_eq_true hb.1;have b2:=Nat.le_of_ble_eq_true hb.2;simp only[zqk]at h;split at h
      ·rename_i U D;simp only[zqb,zqh]at h;obtain⟨rfl,rfl,rfl,rfl⟩:=h;have T:=A7 (hC.tok.facts ht) hu;refine T6 hw λfr M G w a K Qw hK J hs Y hk=>?_;obtain⟨z,hz,X,Z⟩:=U1o hC.tok hj b w;obtain⟨ws,f1,f2⟩:=K10 (M:=M) (G:=G) (vs:=(Array.range (b*j.size)).map (z[· % z.size]!)) (N1:=(c.map λ(p:Nat×Operand)=>(p.1,a.eval p.2)).toList) ⟨by rw[X];simp,Z,λi x v B hv=>by
         rw[List.getElem?_replicate]at B;split at B
         ·simp only[zqb]at B;subst B;exact .junk
         ·cases B⟩ (by simp) (λi p q y u=>by
         rw[List.getElem?_map]at y;rw[Array.getElem?_toList,Array.getElem?_map]at u;cases hpi:c[i]? with
         |none=>rw[hpi]at u;cases u
         |some r=>
          rw[Array.getElem?_toList,hpi]at y;rw[hpi]at u;simp only[zqt,zqb]at y u;subst y;subst u;exact⟨rfl,hs.eval _⟩) D
       have O:¬b*j.size>2^24:=by
        have:b*j.size<=65536*64:=Nat.mul_le_mul b1 b2;have a0:(2:Nat)^24=16777216:=by decide
        omega
       have I:(Instr.buildSlice t b (c.map λ(p:Nat×Operand)=>(p.1,a.eval p.2))).run F.C.P w = .ok (.slice (some ⟨w.heap.size,0,none⟩) b b) (w.alloc (.cells ws e')):=by
        simp only[Instr.buildSlice,Sem.run_bind,run_underlying T,Result.andThen_ok,D9 (hC.tok.facts hj) w];rw[zn O];rcases hz with⟨V,rfl⟩|⟨V,v,hv,rfl⟩
        ·rw[zp V];simp only[Sem.run_bind,Sem.run_pure,Result.andThen_ok,f1];simp[newRow]
        ·rw[zn V];simp only[Sem.run_bind,Sem.run_pure,Result.andThen_ok,hv,f1];simp[newRow]
       have h1:=hs.newRow (dst:=none) (by simp) f2 (elem:=e');have h2:=D2.newRow Y (cs:=U) (vs:=ws) (elem:=e');have h3:=h1.quiet (A4 J) (x:=.rsl H.length 0 b b) (v:=.slice (some ⟨w.heap.size,0,none⟩) b b) (.rsl C2 (zqr _) (by unfold maxLen;omega)) h1.good (Ext.refl _ _ _);unfold Oper.wp execOp;simp only[ho,Sem.run_bind,I,Result.andThen_ok,Sem.run_pure];rw[<-W2 hd]at k;exact hk _ _ _ _ _ _ _ k h3 (h2.quiet (Ext.refl _ _ _))
      ·cases h
    ·cases h
   ·cases h
  ·cases h
 ·cases h
section
variable {α:Type}{f:α->Row}{g:List α->List Row}
def N1k (h:α->D):∀l:List α,(l.map λx=>A.d (h x))=(l.map λx=>[h x]).flatten.map A.d
 |[]=>rfl
 |x::r=>by simp only[List.map_cons,List.flatten_cons,List.map_append,N1k h r,List.map_nil];rfl
end
inductive Kt where
 |nil
 |th (c:Code) (k:Kt)
 |bl (id:Nat) (k:Kt)
 |ag (c:Code) (k:Kt)
variable {k:Kt}
def QS (F:Fx):Kt->Po->Po
 |.nil,Q=>Q
 |.th c k,Q=>Then F c (QS F k Q)
 |.bl i k,Q=>Mr i (QS F k Q)
 |.ag c k,Q=>J1r F c (QS F k Q)
inductive Md where
 |c (c:Code)
 |o (L l:List Oper)
 |q (L l r:List Oper)
 |g (L l r:List Oper) (cnd:Cnd)
 |x (e:Ex)
 |w (d:Option Nat) (y:A) (m:Md)
def X (F:Fx)(k:Kt)(Q:Po):Md->Env->F0->Prop
 |.c c,e,h=>AEx F c e h (QS F k Q)
 |.o L l,e,h=>K0 F L l e h (Ik (QS F k Q))
 |.q L l r,e,h=>AQ F.C L l e h (λe=>K0 F L r e h (Ik (QS F k Q)))
 |.g L l r cnd,e,h=>AG F.C L l e cnd h (λe c=>K0 F L r (E1d e c) h (Ik (QS F k Q)))
 |.x z,e,h=>QS F k Q z e h
 |.w d y m,e,h=>X F k Q m (put e d y) h
def A1i (T:TT)(GL:GT)(op:Op)(env:Env):Bool:=
 match op with
 |.binOp bo _ x y _=>match bo with
  |.quo |.rem |.shl |.shr=>match y with
   |.const _=>U1d T GL op env
   |_=>false
  |.add=>match ev GL env x with
   |.d (.str _)=>false
   |_=>true
  |.eql |.neq=>match ev GL env x with
   |.d (.bxo _)=>false
   |_=>true
  |_=>true
 |.indexAddr _ _ y=>match y with
  |.const _=>U1d T GL op env
  |_=>false
 |.index _ _ y=>match y with
  |.const _=>U1d T GL op env
  |_=>false
 |.call c=>match c.callee,c.args.toList with
  |.builtin .len,[x]=>match ev GL env x with
   |.d (.sl _) |.full _ |.osl _ _=>false
   |_=>true
  |_,_=>true
 |_=>true
def M1x {T:TT}{GL:GT}{op:Op}(h:A1i T GL op env=true):U1d T GL op env=true:=by
 cases op with
 |binOp c r x y d=>
  cases c
  case quo|rem|shl|shr=>
   simp only[A1i]at h;split at h<;>first|exact h|cases h
  case add=>
   simp only[A1i]at h;simp only[U1d,J20];split
   ·rfl
   ·rename_i b _;rw[b]at h;cases h
   ·rfl
  all_goals
   simp only[U1d,J20];split<;>rfl
 |indexAddr t x y=>
  simp only[A1i]at h;split at h<;>first|exact h|cases h
 |index t x y=>
  simp only[A1i]at h;split at h<;>first|exact h|cases h
 |_=>rfl
def Zw (o:Oper):O3 o=some o.dst:=by unfold O3;split<;>rename_i h<;>rw[h]
def opQ (C:Cx)(L:List Oper)(o:Oper)(env:Env)(H:F0):Option A:=
 match K1 L env o with
 |some true=>match o.op with
  |.buildSlice ..=>match I11 C L o env with
   |some (_,rs)=>some (.full rs)
   |none=>none
  |.slice ..=>match Y1z C L o env with
   |some _=>some (.full [])
   |none=>none
  |_=>bif A1i C.T C.GL o.op env then(match opA C.T C.GL o.op env H with
   |some (_,x)=>frc x
   |none=>none)else none
 |some false=>some (.tup [])
 |none=>none
def K23 {C:Cx}(hC:T1 C)(h:opQ C L o env H=some x):G11 C L o env H x:=by
 unfold opQ at h;split at h
 ·rename_i b;refine .inl ⟨b,?_⟩;split at h
  ·split at h
   ·rename_i c;cases h;exact Iy hC c
   ·cases h
  ·split at h
   ·rename_i c;cases h;exact E1w hC c
   ·cases h
  ·obtain⟨r,h⟩:=B7 h;split at h
   ·rename_i d;have:=On h;subst this;exact Al hC d (J1n d (M1x r))
   ·cases h
 ·rename_i b;cases h;exact .inr ⟨b,rfl⟩
 ·cases h
def K0.ofQ {F:Fx}(h:G11 F.C L o env H x)(k:K0 F L l (put env o.dst x) H Q):K0 F L (o::l) env H Q:=by
 rcases h with⟨b,c⟩|⟨b,rfl⟩
 ·exact .yields b c k
 ·exact .skip b k
def Y11 (W:Option Bool)(cnd:Cnd):List Operand->Option (List (Bool×Bool))
 |[]=>some []
 |.tmp t::r=>match cnd t with
  |none=>Y11 W cnd r
  |some v=>match W with
   |some w=>match Y11 W cnd r with
    |some ps=>some ((w,v)::ps)
    |none=>none
   |none=>none
 |.const _::r |.global _::r |.func _::r=>Y11 W cnd r
abbrev Eqs (ps:List (Bool×Bool)):Prop:=∀p∈ps,p.1=p.2
def Fq {W:Option Bool}{cnd:Cnd}(c:holds W):∀{l:List Operand} {ps:List (Bool×Bool)},Y11 W cnd l=some ps->Eqs ps->Pi cnd l
 |[],_,_,_=>trivial
 |.tmp t::r,ps,h,b=>by
  simp only[Y11]at h;simp only[Pi];split at h
  ·rename_i hc;rw[hc];exact Fq c h b
  ·rename_i v hc;rw[hc];split at h
   ·split at h
    ·rename_i u;cases h;have x:_=v:=b _ (zqp ..);exact⟨x▸c,Fq c u λp d=>b p (zqq _ d)⟩
    ·cases h
   ·cases h
 |.const _::r,ps,h,b=>Fq (l:=r) c h b
 |.global _::r,ps,h,b=>Fq (l:=r) c h b
 |.func _::r,ps,h,b=>Fq (l:=r) c h b
def Z1f (W:Option Bool)(t s:Bool)(cnd:Cnd):Operand->List (Bool×Bool)
 |.tmp u=>match cnd u with
  |none=>[]
  |some v=>match W with
   |none=>[(wb t s,v)]
   |some w=>[(w&&wb t s,v)]
 |_=>[]
def Y1s {t s:Bool}(d:holds W)(b:t=s){a:Operand}(c:Eqs (Z1f W t s cnd a)):Pi cnd [a]:=by
 subst b;have b:wb t t=true:=by cases t<;>rfl
 cases a<;>try trivial
 rename_i u;simp only[Pi];simp only[Z1f]at c;split
 ·trivial
 ·rename_i v hc;rw[hc]at c;refine⟨?_,trivial⟩;cases W with
  |none=>exact(c _ (zqp ..)).symm.trans b
  |some w=>
   have x:(w&&wb t t)=v:=c _ (zqp ..);have r:w=true:=d;rw[<-x,b,r];rfl
def opG (C:Cx)(L:List Oper)(o:Oper)(env:Env)(cnd:Cnd)(H:F0):Option (Option Bool×A×List (Bool×Bool)):=
 match Hw L env cnd o with
 |some W=>match o.op with
  |.pick c a b=>match ev C.GL env c,ev C.GL env a,ev C.GL env b,Y11 W cnd [c]with
   |.d (.bool t),.d (.bool xa),.d (.bool xb),some ps=>some (W,.d (.bool (bif t then xa else xb)),ps++(Z1f W t true cnd a++Z1f W t false cnd b))
   |_,_,_,_=>none
  |_=>bif A1i C.T C.GL o.op env then(match opA C.T C.GL o.op env H with
   |some (_,x)=>match frc x,Y11 W cnd (H1a o)with
    |some y,some ps=>some (W,y,ps)
    |_,_=>none
   |none=>none)else none
 |none=>none
def I2b {C:Cx}(hC:T1 C){o:Oper}{Q:Env->Cnd->Prop}{W:Option Bool}{ps:List (Bool×Bool)}(h:opG C L o env cnd H=some (W,x,ps))(u:Eqs ps)
  (k:AG C L l (put env o.dst x) (Ky cnd o.dst W) H Q):AG C L (o::l) env cnd H Q:=by
 unfold opG at h;split at h
 ·rename_i W' B;split at h
  ·rename_i c a b O;split at h
   ·rename_i t xa xb I hc Z U v;cases h;have Y:Eqs I:=λp r=>u p (List.mem_append_left _ r);have V:Eqs (Z1f W t true cnd a):=λp r=>u p (List.mem_append_right _ (List.mem_append_left _ r));have T:Eqs (Z1f W t false cnd b):=λp r=>u p (List.mem_append_right _ (List.mem_append_right _ r));refine AG.p hC (d:=o.dst) (W:=W) (sc:=Pi cnd [c]) (sa:=Pi cnd [a]) (sb:=Pi cnd [b]) (t:=t) (xa:=xa) (xb:=xb) ?_ (λh=>⟨Fq h v Y,λe=>Y1s h e V,λe=>Y1s h e T⟩) k;unfold D1s;rw[B,O,Zw];simp only;rw[hc,Z,U]
   ·cases h
  ·obtain⟨X,h⟩:=B7 h;split at h
   ·rename_i c y D;split at h
    ·rename_i z I J v;cases h;have:=On J;subst this;exact .lift (Zw o) B (λh=>Fq h v u) (λ_=>Al hC (o:=noG o) D (J1n D (M1x X))) k
    ·cases h
   ·cases h
 ·cases h
def stO (C:Cx)(L:List Oper)(o:Oper)(l:List Oper)(env:Env)(H:F0):Option (Md×Env×F0):=
 match o.op with
 |.alloc _=>match F1s C L o env H with
  |some (d,n,H')=>some (.o L l,put env d (.ref n 0),H')
  |none=>none
 |.box ..=>match R1z C L o env H with
  |some (d,n,H')=>some (.o L l,put env d (.ref n 0),H')
  |none=>none
 |.store ..=>match Fw C L o env H with
  |some H'=>some (.o L l,env,H')
  |none=>none
 |_=>match opQ C L o env H,O3 o with
  |some x,some d=>some (.o L l,put env d x,H)
  |_,_=>none
def J2b {F:Fx}(hC:T1 F.C){m:Md}{Q:Po}(h:stO F.C L o l env H=some (m,env',H'))(K:X F k Q m env' H'):X F k Q (.o L (o::l)) env H:=by
 show K0 F L (o::l) env H _;unfold stO at h;split at h
 ·split at h
  ·rename_i b;cases h;exact .nf hC b K
  ·cases h
 ·split at h
  ·rename_i b;cases h;exact .n hC b K
  ·cases h
 ·split at h
  ·rename_i b;cases h;exact .s hC b K
  ·cases h
 ·split at h
  ·rename_i c d;cases h;have:=W2 d;subst this;exact .ofQ (K23 hC c) K
  ·cases h
def stL (N:Nat)(L:List Oper)(dr:Bool)(n:Nat):Option Md:=
 bif L.all (Hk N)then
  bif Qq L then
   bif dr then(bif H14 L n&&Nat.ble n L.length then some (.q L (L.take n) (L.drop n))else none)else some (.o L L)
  else bif dr then(bif H14 L n&&Nat.ble n L.length then some (.g L (L.take n) (L.drop n) B1s)else none)else some (.g L (L.take n) (L.drop n) B1s)
 else none
def L23 {F:Fx}(hC:T1 F.C){id:Nat}{a:Array Oper}{dr:Bool}{m:Md}{Q:Po}(h:stL F.N a.toList dr n=some m)(K:X F k Q m env H):X F k Q (.c (.region id a dr)) env H:=by
 show AEx F (.region id a dr) env H _;obtain⟨L,rfl⟩:∃L:List Oper,a=L.toArray:=⟨a.toList,(Array.toArray_toList).symm⟩
 unfold stL at h;obtain⟨d,h⟩:=B7 h;cases hg:Qq L with
 |true=>
  rw[hg]at h;cases dr with
  |true=>
   obtain⟨b,h⟩:=B7 h;simp only[zqi]at b;cases h;exact .draw hC n d b.1 b.2 K
  |false=>
   cases h;exact .regionN hg d K
 |false=>
  rw[hg]at h;cases dr with
  |true=>
   obtain⟨b,h⟩:=B7 h;simp only[zqi]at b;cases h;exact .drawG hC n d b.1 b.2 K
  |false=>
   cases h;exact .regionG n d K
def AEx.scope {F:Fx}{c:Code}{env:Env}{H:F0}{Q:Po}(k:AEx F c env H Q):AEx F (.scope c) env H Q:=λd M G w a u r b=>
 wp_scope_straight (wp_mono (k d M G w a u r b) λe a w h=>by
  cases e with
  |goto l=>
   rcases h with⟨x,_,_,_,_,e,_⟩|⟨_,_,_,_,_,e,_⟩|⟨e|⟨_,e⟩,_⟩
   ·cases x<;>cases e
   ·cases e
   ·cases e
   ·cases e
  |_=>exact h)
def AEx.label {F:Fx}{l:Nat}{env:Env}{H:F0}{Q:Po}(h:Q .normal env H):AEx F (.label l) env H Q:=λ_ _ _ _ _ _ c b=>wp_label (.inl ⟨.normal,_,_,_,_,rfl,h,c,b⟩)
def stp (C:Cx)(N:Nat):Md->Kt->Env->F0->Option (Md×Kt×Env×F0×List (Bool×Bool))
 |.c (.seq a b),k,e,h=>some (.c a,.th b k,e,h,[])
 |.c .skip,k,e,h=>some (.x .normal,k,e,h,[])
 |.c .ret,k,e,h=>some (.x .ret,k,e,h,[])
 |.c (.exit i),k,e,h=>some (.x (.exit i),k,e,h,[])
 |.c (.block i c),k,e,h=>some (.c c,.bl i k,e,h,[])
 |.c (.scope c),k,e,h=>some (.c c,k,e,h,[])
 |.c (.label _),k,e,h=>some (.x .normal,k,e,h,[])
 |.c (.region _ a dr),k,e,h=>match stL N a.toList dr (L22 a.toList)with
  |some m=>some (m,k,e,h,[])
  |none=>none
 |.c _,_,_,_=>none
 |.o _ [],k,e,h=>some (.x .normal,k,e,h,[])
 |.o L (o::l),k,e,h=>match stO C L o l e h with
  |some (m,e',h')=>some (m,k,e',h',[])
  |none=>none
 |.q L [] r,k,e,h=>some (.o L r,k,e,h,[])
 |.q L (o::l) r,k,e,h=>match opQ C L o e h,O3 o with
  |some x,some d=>some (.q L l r,k,put e d x,h,[])
  |_,_=>none
 |.g L [] r cnd,k,e,h=>some (.o L r,k,E1d e cnd,h,[])
 |.g L (o::l) r cnd,k,e,h=>match opG C L o e cnd h,O3 o with
  |some (W,x,ps),some d=>some (.g L l r (Ky cnd d W),k,put e d x,h,ps)
  |_,_=>none
 |.x .normal,.th c k,e,h=>some (.c c,k,e,h,[])
 |.x .normal,.bl _ k,e,h=>some (.x .normal,k,e,h,[])
 |.x .normal,_,_,_=>none
 |.x .ret,.th _ k,e,h=>some (.x .ret,k,e,h,[])
 |.x .ret,.bl _ k,e,h=>some (.x .ret,k,e,h,[])
 |.x .ret,.ag _ k,e,h=>some (.x .ret,k,e,h,[])
 |.x .ret,.nil,_,_=>none
 |.x (.exit i),.th _ k,e,h=>some (.x (.exit i),k,e,h,[])
 |.x (.exit i),.bl j k,e,h=>bif Nat.beq i j then some (.x .normal,k,e,h,[])else some (.x (.exit i),k,e,h,[])
 |.x (.exit i),.ag _ k,e,h=>some (.x (.exit i),k,e,h,[])
 |.x (.exit _),.nil,_,_=>none
 |.w d y m,k,e,h=>match frc y,R9 h with
  |some y',some h'=>some (m,k,put e d y',h',[])
  |_,_=>none
def K2b {F:Fx}(hC:T1 F.C){m m':Md}{k':Kt}{ps:List (Bool×Bool)}{Q:Po}(h:stp F.C F.N m k env H=some (m',k',env',H',ps))(v:Eqs ps)(K:X F k' Q m' env' H'):X F k Q m env H:=by
 unfold stp at h;split at h
 ·cases h;exact AEx.seq K
 ·cases h;exact AEx.skip K
 ·cases h;exact AEx.ret K
 ·cases h;exact AEx.exit K
 ·cases h;exact AEx.block K
 ·cases h;exact AEx.scope K
 ·cases h;exact AEx.label K
 ·split at h
  ·rename_i b;cases h;exact L23 hC b K
  ·cases h
 ·cases h
 ·cases h;exact K0.nil K
 ·split at h
  ·rename_i b;cases h;exact J2b hC b K
  ·cases h
 ·cases h;exact K
 ·split at h
  ·rename_i c d;cases h;have:=W2 d;subst this;exact⟨_,_,rfl,K23 hC c,K⟩
  ·cases h
 ·cases h;exact K
 ·split at h
  ·rename_i c d;cases h;have:=W2 d;subst this;exact I2b hC c v K
  ·cases h
 ·cases h;exact K
 ·cases h;exact K
 ·cases h
 ·cases h;exact K
 ·cases h;exact K
 ·cases h;exact K
 ·cases h
 ·cases h;exact K
 ·rename_i i j k;show(bif Nat.beq i j then QS F k Q .normal env H else QS F k Q (.exit i) env H);cases hb:Nat.beq i j with
  |true=>rw[hb]at h;cases h;exact K
  |false=>rw[hb]at h;cases h;exact K
 ·cases h;exact K
 ·cases h
 ·split at h
  ·rename_i r u;cases h;have y:=On r;have x:=Mg u;subst y;subst x;exact K
  ·cases h
def run (C:Cx)(N:Nat):Nat->Md->Kt->Env->F0->List (Bool×Bool)->Option (Md×Kt×Env×F0×List (Bool×Bool))
 |0,m,k,e,h,ws=>some (m,k,e,h,ws)
 |n+1,m,k,e,h,ws=>match stp C N m k e h with
  |some (m',k',e',h',ps)=>run C N n m' k' e' h' (ps++ws)
  |none=>some (m,k,e,h,ws)
def N1x {C:Cx}{N:Nat}{m':Md}{k':Kt}{e':Env}{h':F0}{W:List (Bool×Bool)}:∀{n:Nat} {m:Md} {k:Kt} {e:Env} {h:F0} {d:List (Bool×Bool)} {p:Bool×Bool},run C N n m k e h d=some (m',k',e',h',W)->p∈d->p∈W
 |0,_,_,_,_,_,_,b,c=>by cases b;exact c
 |n+1,m,k,e,h,d,p,b,c=>by
  unfold run at b;split at b
  ·exact N1x b (List.mem_append_right _ c)
  ·cases b;exact c
def M23 {F:Fx}(hC:T1 F.C){m':Md}{k':Kt}{e':Env}{h':F0}{W:List (Bool×Bool)}{Q:Po}(d:Eqs W)(K:X F k' Q m' e' h'):∀{n:Nat} {m:Md} {k:Kt} {e:Env} {h:F0} {c:List (Bool×Bool)},run F.C F.N n m k e h c=some (m',k',e',h',W)->X F k Q m e h
 |0,m,k,e,h,c,b=>by cases b;exact K
 |n+1,m,k,e,h,c,b=>by
  unfold run at b;split at b
  ·rename_i r;exact K2b hC r (λp u=>d p (N1x b (List.mem_append_left _ u))) (M23 hC d K b)
  ·cases b;exact K
def rn (C:Cx)(N n:Nat)(m:Md)(k:Kt)(e:Env)(h:F0):Option (Md×Kt×Env×F0×List Bool×List Bool):=
 match run C N n m k e h []with
 |some (m',k',e',h',W)=>some (m',k',e',h',W.map Prod.fst,W.map Prod.snd)
 |none=>none
def Z1s:∀{W:List (Bool×Bool)},W.map Prod.fst=W.map Prod.snd->Eqs W
 |[],_,p,b=>by cases b
 |q::r,h,p,b=>by
  simp only[List.map_cons,List.cons.injEq]at h;cases b with
  |head=>exact h.1
  |tail _ b=>exact Z1s h.2 p b
def Q2c {F:Fx}(hC:T1 F.C){m m':Md}{k':Kt}{e e':Env}{h h':F0}{w:List Bool}{Q:Po}(b:rn F.C F.N n m k e h=some (m',k',e',h',w,w))(K:X F k' Q m' e' h'):X F k Q m e h:=by
 unfold rn at b;split at b
 ·rename_i c;simp only[zqb,zqh]at b;obtain⟨rfl,rfl,rfl,rfl,d,r⟩:=b;exact M23 hC (Z1s (d.trans r.symm)) K c
 ·cases b
mutual
def fit:A->A->A
 |.junk,_=>.junk
 |.d (.sl _),y=>match y with
  |.osl _ r=>.d (.sl r)
  |.full r=>.d (.sl r)
  |y=>y
 |.d (.bxo _),y=>match y with
  |.d (.nilv .ptr)=>.d (.bxo none)
  |y=>y
 |.d (.fn _),y=>match y with
  |.d (.nilv .func)=>.d (.fn none)
  |.clo f []=>.d (.fn (some f))
  |y=>y
 |.agg xs,y=>match y with
  |.agg ys=>.agg (S12 xs ys)
  |y=>y
 |.tup xs,y=>match y with
  |.tup ys=>.tup (S12 xs ys)
  |y=>y
 |.clo _ xs,y=>match y with
  |.clo f ys=>.clo f (S12 xs ys)
  |y=>y
 |.bnd _ xs,y=>match y with
  |.bnd f ys=>.bnd f (S12 xs ys)
  |y=>y
 |_,y=>y
def S12:List A->List A->List A
 |x::xs,y::ys=>fit x y::S12 xs ys
 |_,ys=>ys
end
mutual
def A1t:∀x y:A,LeA (fit x y) y
 |.junk,_=>.junk
 |.d (.sl _),y=>by cases y<;>first|exact .osl|exact .full|exact .rfl
 |.d (.bxo _),y=>by
  cases y<;>try exact .rfl
  rename_i d;cases d<;>try exact .rfl
  rename_i k;cases k<;>first|exact .nbx|exact .rfl
 |.d (.fn _),y=>by
  cases y with
  |d d=>
   cases d<;>try exact .rfl
   rename_i k;cases k<;>first|exact .nfn|exact .rfl
  |clo f r=>
   cases r with
   |nil=>exact .fnc
   |cons _ _=>exact .rfl
  |_=>exact .rfl
 |.agg c,y=>by
  cases y<;>try exact .rfl
  rename_i b;exact .aggL (En c b)
 |.tup c,y=>by
  cases y<;>try exact .rfl
  rename_i b;exact .tupL (En c b)
 |.clo _ c,y=>by
  cases y<;>try exact .rfl
  rename_i f b;exact .clo (En c b).spec.1 (En c b).spec.2
 |.bnd _ c,y=>by
  cases y<;>try exact .rfl
  rename_i f b;exact .bnd (En c b).spec.1 (En c b).spec.2
 |.d (.bool _),_=>.rfl
 |.d (.int _ _),_=>.rfl
 |.d (.str _),_=>.rfl
 |.d (.nilv _),_=>.rfl
 |.d (.box _),_=>.rfl
 |.d (.mp _),_=>.rfl
 |.d (.csl _ _ _ _),_=>.rfl
 |.d (.cel _ _ _),_=>.rfl
 |.vsl _,_=>.rfl
 |.vel _ _,_=>.rfl
 |.ref _ _,_=>.rfl
 |.ptr _,_=>.rfl
 |.full _,_=>.rfl
 |.osl _ _,_=>.rfl
 |.rsl _ _ _ _,_=>.rfl
 |.mp _,_=>.rfl
def En:∀xs b:List A,LeL (S12 xs b) b
 |x::xs,y::b=>⟨A1t x y,En xs b⟩
 |[],b=>.refl b
 |_::_,[]=>trivial
end
def B1i (env:Env):List (Nat×A)->List A
 |[]=>[]
 |p::r=>fit p.2 (env p.1)::B1i env r
def X26:Ob->Ob->Ob
 |.dead,_=>.dead
 |.row xs _,y=>match y with
  |.row ys e=>.row (S12 xs ys) e
  |y=>y
 |_,y=>y
def J17:F0->F0->F0
 |[],_=>[]
 |x::r,y::H=>X26 x y::J17 r H
 |_::_,[]=>[]
def L2b {k:Nat}{env:Env}:∀{L:List (Nat×A)},B1i env L=N1 L->R2 k (N1 L)=true->WkE k env L
 |[],_,_=>trivial
 |(t,x)::r,h,b=>by
  simp only[B1i,N1,List.cons.injEq]at h;simp only[N1,R2,zqi]at b;have:=A1t x (env t);rw[h.1]at this;exact⟨⟨this,b.1⟩,L2b h.2 b.2⟩
def C2d {k:Nat}{x y:Ob}(h:X26 x y=x)(b:X1m k x=true):WkO k x y:=by
 cases x with
 |dead=>trivial
 |row d e=>
  cases y<;>simp only[X26]at h<;>try cases h
  rename_i c e';have:=En d c;simp only[Ob.row.injEq]at h;rw[h.1]at this;exact⟨h.2.symm,this,b⟩
 |_=>cases h;exact .same b
def Y26 {k:Nat}:∀{H H2:F0},J17 H2 H=H2->H2.all (X1m k)=true->WkH k H H2
 |[],[],_,_=>trivial
 |_::_,[],_,_=>trivial
 |[],y::r,h,_=>by simp[J17]at h
 |x::H,y::r,h,b=>by
  simp only[J17,List.cons.injEq]at h;simp only[List.all_cons,zqi]at b;exact⟨C2d h.1 b.1,Y26 h.2 b.2⟩
def wk2 {K:Nat}{L:List (Nat×A)}{H2:F0}(d:B1i env L=N1 L)(c:J17 H2 H=H2)(b:okB K (N1 L) H2=true):Wk K env H L H2:=by
 simp only[okB,zqi]at b;exact⟨L2b d b.1.1,Y26 c b.1.2,b.2⟩
structure Fp (α:Type) where
 C:Cx
 N:FN
 K:Nat
 rs:List ResultVar
 pn:α->Value->Env->F0->Prop
 es:α->Fr->Exit->Act->World->Prop
 P:α->A->F0->Prop
def Fp.F (Φ:Fp α)(r:α):Fx:=⟨Φ.C,Φ.N,Φ.K,Φ.pn r,Φ.es r⟩
def XR (Φ:Fp α)(k:Kt)(p:Option α)(m:Md)(e:Env)(h:F0):Prop:=∀r,p=some r->X (Φ.F r) k (Wr (Φ.F r) Φ.rs (Φ.P r)) m e h
abbrev Fzf {α:Type}(C:Cx)(f:Func)(K:Nat)(P:α->A->F0->Prop):Fp α:=⟨C,⟨f.ntmps,[]⟩,K,f.results.toList,λ_=>Z15,λ_=>D11,P⟩
def pks:Code->List Nat->Kt->Kt
 |_,[],k=>k
 |c,i::p,k=>pks (sub i c) p (match i,c with
  |0,c=>.th (sr c) k
  |4,.block id _=>.bl id k
  |5,c=>.ag (lo c) k
  |_,_=>k)
abbrev SP {α:Type}(C:Cx)(f:FuncId)(args:List A)(H:F0)(p:Option α)(P:α->A->F0->Prop):Prop:=∀r,p=some r->B4 C f args H (P r)
def LP (C:Cx)(f:Func)(K:Nat)(pa:List Nat)(E:List (Nat×A))(H:F0)(p:Option α)(P:α->A->F0->Prop):Prop:=
 ∀r,p=some r->T8 ((Fzf C f K P).F r) (lo (pc (My f) pa)) (Gj E) H (QS ((Fzf C f K P).F r) (pks (My f) pa .nil) (Wr ((Fzf C f K P).F r) f.results.toList (P r)))
def JP (C:Cx)(f:Func)(K:Nat)(pa:List Nat)(E:List (Nat×A))(H:F0)(p:Option α)(P:α->A->F0->Prop):Prop:=XR (Fzf C f K P) (pks (My f) pa .nil) p (.c (pc (My f) pa)) (Gj E) H
section
variable {α:Type}{Φ:Fp α}{k:Kt}{p q:Option α}{m:Md}{e:Env}{h:F0}
def nn:XR Φ k (none:Option α) m e h:=λ_ b=>by cases b
def bn {x:Option β}{f:β->Option α}(K:∀a,x=some a->XR Φ k (f a) m e h):XR Φ k (x>>=f) m e h:=λr d=>by
 obtain⟨a,c,b⟩:=bind_some d;exact K a c r b
def aa [Decidable c](K:c->XR Φ k p m e h):XR Φ k (if decide c=true then p else none) m e h:=λr u=>by
 obtain⟨d,b⟩:=G6 u;exact K d r b
def ai [Decidable c](K:(b=true->c)->XR Φ k p m e h):XR Φ k (if(!b||decide c)=true then p else none) m e h:=λr v=>by
 obtain⟨u,d⟩:=K26 v;exact K u r d
end
section
variable {α:Type}{Φ:Fp α}[hc:Nonempty (T1 Φ.C)]{k k':Kt}{p q:Option α}{m m':Md}{e e':Env}{h h':F0}{w:List Bool}
def X.of {r:α}{Q:Po}(b:rn Φ.C Φ.N n m k e h=some (m',k',e',h',w,w))(K:X (Φ.F r) k' Q m' e' h'):X (Φ.F r) k Q m e h:=Q2c (F:=Φ.F r) (okC (C:=Φ.C)) b K
def Z26:Md->Kt->Bool
 |.x .normal,.nil=>true
 |.x .ret,.nil=>true
 |_,_=>false
def lf {v:α}(u:(Φ.P v,rn Φ.C Φ.N 9999 m k e h,Z26 m' k',Y1c Φ.C.T Φ.rs e' h',fit x y,J17 H h',okB Φ.K [x] H)=(Ret H x,some (m',k',e',h',w,w),true,some y,x,H,true)):XR Φ k (some v) m e h:=by
 simp only[zqh]at u;obtain⟨B,O,d,I,J,U,c⟩:=u;intro r D;cases D;refine X.of O ?_;simp only[okB,R2,zqi,Bool.and_true]at c;have b:=A1t x y;rw[J]at b;have z:Wr (Φ.F v) Φ.rs (Φ.P v) .ret e' h':=by
  rw[B];exact⟨y,x,H,I,b,Y26 U c.1.2,c.1.1,c.2,rfl,rfl⟩
 unfold Z26 at d;split at d
 ·exact z
 ·exact z
 ·cases d
def K1n (GL:GT):Md->Env->Option (Code×Code×A)
 |.c (.cond c x y),e=>some (x,y,ev GL e c)
 |_,_=>none
def ci {x y:Code}{t:Bool}(v:(rn Φ.C Φ.N 9999 m k e h,K1n Φ.C.GL m' e')=(some (m',k',e',h',w,w),some (x,y,.d (.bool t))))(K:XR Φ k' p (.c x) e' h')(D:XR Φ k' q (.c y) e' h'):XR Φ k (if t=true then p else q) m e h:=λr z=>by
 simp only[zqh]at v;obtain⟨B,b⟩:=v;refine X.of B ?_;unfold K1n at b;split at b
 ·simp only[zqb,zqh]at b;obtain⟨rfl,rfl,b⟩:=b;exact .cond b (λu=>K r (P10 u z)) (λu=>D r (L26 u z))
 ·cases b
def ct {x y:Code}(u:(rn Φ.C Φ.N 9999 m k e h,K1n Φ.C.GL m' e')=(some (m',k',e',h',w,w),some (x,y,.d (.bool true))))(K:XR Φ k' p (.c x) e' h'):XR Φ k p m e h:=λr z=>by
 simp only[zqh]at u;obtain⟨v,b⟩:=u;refine X.of v ?_;unfold K1n at b;split at b
 ·simp only[zqb,zqh]at b;obtain⟨rfl,rfl,b⟩:=b;exact .cond_true b (K r z)
 ·cases b
def cf {x y:Code}(u:(rn Φ.C Φ.N 9999 m k e h,K1n Φ.C.GL m' e')=(some (m',k',e',h',w,w),some (x,y,.d (.bool false))))(K:XR Φ k' p (.c y) e' h'):XR Φ k p m e h:=λr z=>by
 simp only[zqh]at u;obtain⟨v,b⟩:=u;refine X.of v ?_;unfold K1n at b;split at b
 ·simp only[zqb,zqh]at b;obtain⟨rfl,rfl,b⟩:=b;exact .cond_false b (K r z)
 ·cases b
structure At where
 L:List Oper
 o:Oper
 W:Option Bool
 ps:List (Bool×Bool)
 n:Md
def A27:Md->Env->Option At
 |.o L (o::l),_=>some ⟨L,o,none,[],.o L l⟩
 |.q L (o::l) r,_=>some ⟨L,o,none,[],.q L l r⟩
 |.g L (o::l) r cnd,e=>match Hw L e cnd o with
  |some W=>match Y11 W cnd (H1a o)with
   |some ps=>some ⟨[],noG o,W,ps,.g L l r (Ky cnd o.dst W)⟩
   |none=>none
  |none=>none
 |_,_=>none
def P29 {F:Fx}{k:Kt}{Q:Po}{m:Md}{e:Env}{h:F0}{ps:List (Bool×Bool)}{n:Md}(b:A27 m e=some ⟨L,o,W,ps,n⟩)(v:Eqs ps)(d:holds W->K1 L e o=some true)
  (c:holds W->R4 F.C o e h y) (K:X F k Q n (put e o.dst y) h):X F k Q m e h:=by
 unfold A27 at b;split at b
 ·cases b;exact K0.yields (d trivial) (c trivial) K
 ·cases b;exact⟨_,_,rfl,.inl ⟨d trivial,c trivial⟩,K⟩
 ·split at b
  ·rename_i W' u;split at b
   ·rename_i r;cases b;exact AG.lift (Zw _) u (λh=>Fq h r v) c K
   ·cases b
  ·cases b
 ·cases b
def atO (m:Md)(e:Env)(f:List Oper->Oper->Option β):Option (Option Bool×List Bool×List Bool×Md×β):=match A27 m e with
 |some ⟨L,o,W,ps,n⟩=>match f L o with
  |some x=>some (W,ps.map Prod.fst,ps.map Prod.snd,n,x)
  |none=>none
 |none=>none
def A19 {F:Fx}{k:Kt}{Q:Po}{m:Md}{e:Env}{h:F0}{f:List Oper->Oper->Option β}{n:Md}{x:β}(b:atO m e f=some (W,v,v,n,x))
  (z:∀L o,f L o=some x->(holds W->K1 L e o=some true)/\O3 o=some d/\(holds W->R4 F.C o e h y)) (K:X F k Q n (put e d y) h):X F k Q m e h:=by
 unfold atO at b;split at b
 ·rename_i c;split at b
  ·rename_i D;simp only[zqb,zqh]at b;obtain⟨rfl,rfl,I,rfl,rfl⟩:=b;obtain⟨r,u,B⟩:=z _ _ D;have:=W2 u;subst this;exact P29 c (Z1s I.symm) r B K
  ·cases b
 ·cases b
def kc {x:Option β}{f:β->Option α}{n:Md}{u:List A}{B:β->A}{P:β->A->F0->Prop}(D:SP Φ.C g u [] x P)
  (z:(P,rn Φ.C Φ.N 9999 m k e h,atO m' e' (λL o=>Ad Φ.C L o e'),S12 u xs,R2 0 u)=((λb=>Ret [] (B b)),some (m',k',e',h',w,w),some (none,v,v,n,d,g,xs),u,true))
  (K:∀b,XR Φ k' (f b) (.w d (B b) n) e' h'):XR Φ k (x>>=f) m e h:=λr y=>by
 simp only[zqh]at z;obtain⟨rfl,U,Y,I,T⟩:=z;obtain⟨b,V,y⟩:=bind_some y;refine X.of U (A19 Y (λL o Z=>?_) (K b r y));obtain⟨J,O,g3⟩:=Ze Z;have c:=En u xs;rw[I]at c;exact⟨λ_=>J,by rw[Zw,g3],λ_=>H1d O c T (D b V)⟩
def kg [Inhabited β]{x:Option β}{f:β->Option α}{c:Bool}{n:Md}{y:List A}{D:β->A}{P:β->A->F0->Prop}(I:SP Φ.C g y [] x P)
  (B:(P,rn Φ.C Φ.N 9999 m k e h,atO m' e' (λL o=>Ad Φ.C L o e'),S12 y xs,R2 0 y)=((λb=>Ret [] (D b)),some (m',k',e',h',w,w),some (some c,v,v,n,d,g,xs),y,true))
  (K:∀b,XR Φ k' (f b) (.w d (D b) n) e' h'):XR Φ k ((if c=true then x else some default)>>=f) m e h:=λr z=>by
 simp only[zqh]at B;obtain⟨rfl,Y,h2,J,U⟩:=B;obtain⟨b,V,z⟩:=bind_some z;refine X.of Y (A19 h2 (λL o hs=>?_) (K b r z));obtain⟨O,T,g3⟩:=Ze hs;have u:=En y xs;rw[J]at u;exact⟨λ_=>O,by rw[Zw,g3],λZ=>H1d T u U (I b (P10 Z V))⟩
end
universe u
def R {α:Sort u}{a:α}:a=a:=rfl
class Rw (α:Type) where
 row:α->Row
 rows:List α->List Row
 sz:Nat
 eq:∀l,rows l=l.map row
 len:∀x,(row x).length=sz
def Rw.length {α:Type}[Rw α](l:List α):(Rw.rows l).length=l.length:=by rw[Rw.eq,List.length_map]
def Rw.szs [Rw α](l:List α):∀r∈Rw.rows l,r.length=Rw.sz α:=Q10 Rw.eq Rw.len l
def Rw.app [Rw α](a b:List α):Rw.rows (a++b)=Rw.rows a++Rw.rows b:=X1h Rw.eq a b
def O1k (C:Cx)(L:List Oper)(o:Oper)(env:Env)(H:F0):Option (Option Nat×A):=
 match K1 L env o,opA C.T C.GL o.op env H,O3 o with
 |some true,some (_,x),some d=>bif U1d C.T C.GL o.op env then some (d,x)else none
 |_,_,_=>none
def B1t {C:Cx}(hC:T1 C)(h:O1k C L o env H=some (d,x)):K1 L env o=some true/\O3 o=some d/\R4 C o env H x:=by
 unfold O1k at h;split at h
 ·rename_i c b r;obtain⟨u,h⟩:=B7 h;cases h;exact⟨c,r,Al hC b (J1n b u)⟩
 ·cases h
def opO:Md->Option (List Oper×Oper×List Oper)
 |.o L (o::l)=>some (L,o,l)
 |_=>none
def P1k {m:Md}(h:opO m=some (L,o,l)):m = .o L (o::l):=by
 unfold opO at h;split at h
 ·cases h;rfl
 ·cases h
def arr:Md->Kt->Option (Code×Kt)
 |.c (.loop c),k=>some (c,k)
 |.x .normal,.ag c k=>some (c,k)
 |_,_=>none
def arj:Md->Kt->Option (Code×Kt)
 |.x .normal,.th c k=>some (c,k)
 |_,_=>none
section
variable {α:Type}{Φ:Fp α}[hc:Nonempty (T1 Φ.C)]{k k' k2:Kt}{p q:Option α}{m m':Md}{e e':Env}{h h':F0}{w:List Bool}
def ln (β:Type)[Rw β]{l:List β}{n:Md}(c:(rn Φ.C Φ.N 9999 m k e h,atO m' e' (λL o=>O1k Φ.C L o e' h'))=(some (m',k',e',h',w,w),some (W,v,v,n,d,.d (.int .i64 ((Rw.rows l).length:Nat)))))
  (K:XR Φ k' p (.w d (.d (.int .i64 (l.length:Nat))) n) e' h'):XR Φ k p m e h:=λr D=>by
 simp only[zqh]at c;obtain⟨u,z⟩:=c;refine X.of u (A19 z (λL o B=>?_) (K r D));obtain⟨x,y,b⟩:=B1t okC B;rw[Rw.length]at b;exact⟨λ_=>x,y,λ_=>b⟩
def ll [Rw β](l:List β){n:Md}(b:(rn Φ.C Φ.N 9999 m k e h,atO m' e' (λL o=>O1k Φ.C L o e' h'))=(some (m',k',e',h',w,w),some (W,v,v,n,d,.d (.int .i64 ((Rw.rows l).length:Nat)))))
  (K:XR Φ k' p (.w d (.d (.int .i64 (l.length:Nat))) n) e' h'):XR Φ k p m e h:=ln β b K
def P28 [Rw β]{l:List β}{n:Int}{x:β}(h:idx l n=some x):n=(n.toNat:Int)/\(Rw.rows l)[n.toNat]?=some (Rw.row x)/\Nat.beq (Rw.row x).length (Rw.sz β)=true:=
 ⟨M8 h,K14 Rw.eq h,by rw[Rw.len];exact Nat.beq_refl _⟩
def lz {v:α}(b:(Φ.P v,rn Φ.C Φ.N 9999 m k e h,Z26 m' k',Y1c Φ.C.T Φ.rs e' h',fit x y,J17 H h',okB Φ.K [x] H)=(Ret H x,some (m',k',e',h',w,w),true,some y,x,H,true):=by exact R):XR Φ k (some v) m e h:=lf b
def ix [Rw β]{l:List β}{i:Int}{f:β->Option α}{n:Md}(u:(rn Φ.C Φ.N 9999 m k e h,atO m' e' (λL o=>F11 Φ.C L o e'))=(some (m',k',e',h',w,w),some (none,v,v,n,d,Rw.rows l,i,Rw.sz β)))
  (K:∀x,XR Φ k' (f x) (.w d (.ptr (Rw.row x)) n) e' h'):XR Φ k (idx l i>>=f) m e h:=λr b=>by
 simp only[zqh]at u;obtain⟨O,J⟩:=u;obtain⟨x,y,b⟩:=bind_some b;obtain⟨T,B,z⟩:=P28 y;refine X.of O (A19 J (λL o c=>?_) (K x r b));obtain⟨D,I⟩:=Gy c;exact⟨λ_=>D,by rw[Zw,I],λ_=>Et okC c T B z⟩
def ig [Rw β][Inhabited β]{l:List β}{i:Int}{c:Bool}{f:β->Option α}{n:Md}(y:(rn Φ.C Φ.N 9999 m k e h,atO m' e' (λL o=>F11 Φ.C L o e'))=(some (m',k',e',h',w,w),some (some c,v,v,n,d,Rw.rows l,i,Rw.sz β)))
  (K:∀x,XR Φ k' (f x) (.w d (.ptr (Rw.row x)) n) e' h'):XR Φ k ((if c=true then idx l i else some default)>>=f) m e h:=λr b=>by
 simp only[zqh]at y;obtain⟨U,T⟩:=y;obtain⟨x,B,b⟩:=bind_some b;refine X.of U (A19 T (λL o u=>?_) (K x r b));obtain⟨J,O⟩:=Gy u;refine⟨λ_=>J,by rw[Zw,O],λz=>?_⟩;obtain⟨V,I,D⟩:=P28 (P10 z B);exact Et okC u V I D
def ap [Rw β]{a:List β}(b:List β){o:Nat}{c:Bool}
  (u:(rn Φ.C Φ.N 9999 m k e h,opO m',U1f Φ.C L op e' h')=(some (m',k',e',h',w,w),some (L,op,l),some ⟨d,o,c,Rw.rows a,b.map Rw.row,Rw.sz β,B,H⟩))
  (K:XR Φ k' p (.w d (.osl o (Rw.rows (a++b))) (.o L l)) (bif c then e' else λt=>dg [o] (e' t)) H):XR Φ k (if decide ((a.length+b.length)*(B+1)<=140737488355328)=true then p else none) m e h:=aa λz r D=>by
 simp only[zqh]at u;obtain⟨x,y,v⟩:=u;have:=P1k y;subst this;rw[<-Rw.eq]at v;exact X.of x (K0.ap (F:=Φ.F r) (okC (C:=Φ.C)) v (Rw.app a b) (Rw.szs a) (Rw.szs b) (by rw[Rw.length,Rw.length];exact z) (K r D))
def av [Rw β]{a:List β}(b:List β){o:Nat}{c:Bool}
  (r:(rn Φ.C Φ.N 9999 m k e h,opO m',U1f Φ.C L op e' h')=(some (m',k',e',h',w,w),some (L,op,l),some ⟨d,o,c,Rw.rows a,Rw.rows b,Rw.sz β,B,H⟩))
  (K:XR Φ k' p (.w d (.osl o (Rw.rows (a++b))) (.o L l)) (bif c then e' else λt=>dg [o] (e' t)) H):XR Φ k (if decide ((a.length+b.length)*(B+1)<=140737488355328)=true then p else none) m e h:=ap b (by rw[<-Rw.eq];exact r) K
def a0 [Rw β](b:List β){o:Nat}{u:Bool}
  (c:(rn Φ.C Φ.N 9999 m k e h,opO m',U1f Φ.C L op e' h')=(some (m',k',e',h',w,w),some (L,op,l),some ⟨d,o,u,[],b.map Rw.row,Rw.sz β,B,H⟩))
  (K:XR Φ k' p (.w d (.osl o (Rw.rows b)) (.o L l)) (bif u then e' else λt=>dg [o] (e' t)) H):XR Φ k (if decide ((0+b.length)*(B+1)<=140737488355328)=true then p else none) m e h:=aa λz r D=>by
 simp only[zqh]at c;obtain⟨x,y,v⟩:=c;have:=P1k y;subst this;rw[<-Rw.eq]at v;exact X.of x (K0.ap (F:=Φ.F r) (okC (C:=Φ.C)) v rfl (λr c=>absurd c List.not_mem_nil) (Rw.szs b) (by rw[Rw.length];exact z) (K r D))
def az [Rw β](b:List β){o:Nat}{c:Bool}
  (r:(rn Φ.C Φ.N 9999 m k e h,opO m',U1f Φ.C L op e' h')=(some (m',k',e',h',w,w),some (L,op,l),some ⟨d,o,c,[],Rw.rows b,Rw.sz β,B,H⟩))
  (K:XR Φ k' p (.w d (.osl o (Rw.rows b)) (.o L l)) (bif c then e' else λt=>dg [o] (e' t)) H):XR Φ k (if decide ((0+b.length)*(B+1)<=140737488355328)=true then p else none) m e h:=a0 b (by rw[<-Rw.eq];exact r) K
def kh {x:Option β}{f:β->Option α}(u:List Nat){y:List A}{I:β->F0}{D:β->A}{P:β->A->F0->Prop}{tk:List Nat}(J:SP Φ.C g y cH x P)
  (B:(P,rn Φ.C Φ.N 9999 m k e h,opO m',Ad Φ.C L op e',S12 (Hb (K3 u h'.length) y) xs,Ep u h'.length,Yr h' u,S4 u cH)=((λb=>Ret (I b) (D b)),some (m',k',e',h',w,w),some (L,op,l),some (d,g,xs),Hb (K3 u h'.length) y,true,Yw (K3 u h'.length) cH,tk))
  (K:∀b,XR Φ k' (f b) (.w d (ren (K3 u h'.length) (D b)) (.o L l)) (dgE tk e') (Aa h' u (K3 u h'.length) tk (I b))):XR Φ k (x>>=f) m e h:=λr z=>by
 simp only[zqh]at B;obtain⟨rfl,V,h2,O,T,Y,h6,rfl⟩:=B;have:=P1k h2;subst this;obtain⟨b,U,z⟩:=bind_some z;have v:=En (Hb (K3 u h'.length) y) xs;rw[T]at v;refine X.of V (K0.callHL (F:=Φ.F r) u y cH O v Y (R18 h6) (J b U) λr1 c ⟨e1,Z⟩=>?_);subst e1;subst Z;have:=K b r z;rw[<-E1k]at this;exact this
def lp {c:Code}{E:List (Nat×A)}(v:∀r,p=some r->T8 (Φ.F r) c (Gj E) H (QS (Φ.F r) k' (Wr (Φ.F r) Φ.rs (Φ.P r))))
  (u:(rn Φ.C Φ.N 9999 m k e h,arr m' k2,B1i e' E,J17 H h',okB Φ.K (N1 E) H)=(some (m',k2,e',h',w,w),some (c,k'),N1 E,H,true)):XR Φ k p m e h:=λr x=>by
 simp only[zqh]at u;obtain⟨B,b,y,z,D⟩:=u;refine X.of B ?_;have d:Wk (Φ.F r).K e' h' E H:=wk2 y z D;unfold arr at b;split at b
 ·cases b;exact .ofLoop (.wk d (v r x))
 ·cases b;exact T8.wk d (v r x)
 ·cases b
def jo (n:Nat){c:Code}{E:List (Nat×A)}(y:XR Φ k' p (.c c) (Gj E) H)
  (d:(rn Φ.C Φ.N n m k e h,arj m' k2,B1i e' E,J17 H h',okB Φ.K (N1 E) H)=(some (m',k2,e',h',w,w),some (c,k'),N1 E,H,true)):XR Φ k p m e h:=λr v=>by
 simp only[zqh]at d;obtain⟨B,b,x,z,D⟩:=d;refine X.of B ?_;have u:Wk (Φ.F r).K e' h' E H:=wk2 x z D;unfold arj at b;split at b
 ·cases b;exact AEx.wk u (y r v)
 ·cases b
def dr (n s:Nat){id:Nat}{a:Array Oper}{d:Md}(u:(rn Φ.C Φ.N s m k e h,stL Φ.N a.toList b n)=(some (.c (.region id a b),k',e',h',w,w),some d))(K:XR Φ k' p d e' h'):XR Φ k p m e h:=λr y=>by
 simp only[zqh]at u;obtain⟨x,v⟩:=u;exact X.of x (L23 (F:=Φ.F r) (okC (C:=Φ.C)) v (K r y))
def xq (n:Nat)(b:rn Φ.C Φ.N n m k e h=some (.q L l l',k',e',h',w,w))(K:∀r,p=some r->AQ Φ.C L l e' h' (λe=>K0 (Φ.F r) L l' e h' (Ik (QS (Φ.F r) k' (Wr (Φ.F r) Φ.rs (Φ.P r)))))):XR Φ k p m e h:=λr c=>X.of b (K r c)
def xg (n:Nat)(b:rn Φ.C Φ.N n m k e h=some (.g L l l' cnd,k',e',h',w,w))(K:∀r,p=some r->AG Φ.C L l e' cnd h' (λe c=>K0 (Φ.F r) L l' (E1d e c) h' (Ik (QS (Φ.F r) k' (Wr (Φ.F r) Φ.rs (Φ.P r)))))):XR Φ k p m e h:=λr d=>X.of b (K r d)
def xe {c:Code}(n:Nat)(b:rn Φ.C Φ.N n m k e h=some (.c c,k',e',h',w,w))(K:∀r,p=some r->AEx (Φ.F r) c e' h' (QS (Φ.F r) k' (Wr (Φ.F r) Φ.rs (Φ.P r)))):XR Φ k p m e h:=λr d=>X.of b (K r d)
def vv {n:Md}(b:(rn Φ.C Φ.N 9999 m k e h,atO m' e' (λL o=>O1k Φ.C L o e' h'))=(some (m',k',e',h',w,w),some (W,v,v,n,d,y)))
  (K:XR Φ k' p (.w d y n) e' h'):XR Φ k p m e h:=λr I=>by
 simp only[zqh]at b;obtain⟨u,B⟩:=b;refine X.of u (A19 B (λL o D=>?_) (K r I));obtain⟨x,z,c⟩:=B1t okC D;exact⟨λ_=>x,z,λ_=>c⟩
def xo (n:Nat)(b:rn Φ.C Φ.N n m k e h=some (.o L l,k',e',h',w,w))(K:∀r,p=some r->K0 (Φ.F r) L l e' h' (Ik (QS (Φ.F r) k' (Wr (Φ.F r) Φ.rs (Φ.P r))))):XR Φ k p m e h:=λr c=>X.of b (K r c)
end
section
variable {α:Type}{C:Cx}{f:Func}{K:Nat}{pa:List Nat}{E:List (Nat×A)}{H:F0}{p:Option α}{P:α->A->F0->Prop}
def yq {α:Type}{Φ:Fp α}{C:Cx}{p:Option α}{e:Env}{h:F0}{r:α}(b:p=some r)(hC:C=Φ.C)(K:XR Φ k p (.q L l l') e h):AQ C L l e h (λe=>K0 (Φ.F r) L l' e h (Ik (QS (Φ.F r) k (Wr (Φ.F r) Φ.rs (Φ.P r))))):=by subst hC;exact K r b
def yg {α:Type}{Φ:Fp α}{C:Cx}{p:Option α}{e:Env}{h:F0}{r:α}(b:p=some r)(hC:C=Φ.C)(K:XR Φ k p (.g L l l' cnd) e h):AG C L l e cnd h (λe c=>K0 (Φ.F r) L l' (E1d e c) h (Ik (QS (Φ.F r) k (Wr (Φ.F r) Φ.rs (Φ.P r))))):=by subst hC;exact K r b
def yo {α:Type}{Φ:Fp α}{p:Option α}{e:Env}{h:F0}{r:α}(b:p=some r)(K:XR Φ k p (.o L l) e h):K0 (Φ.F r) L l e h (Ik (QS (Φ.F r) k (Wr (Φ.F r) Φ.rs (Φ.P r)))):=K r b
def lu (h:XR (Fzf C f K P) (.ag (lo (pc (My f) pa)) (pks (My f) pa .nil)) p (.c (lo (pc (My f) pa))) (Gj E) H):LP C f K pa E H p P:=λr b=>T8.unroll (h r b)
def fi [Nonempty (T1 C)]{c:Code}{b:List A}(d:C.P.funcs[g]?=some f)(h:(f.name == "runtime.NumGoroutine",f.body,Nat.ble b.length f.ntmps)=(false,some c,true))(k:XR (Fzf C f H.length P) .nil p (.c c) (X1c b) H):SP C g b H p P:=λr u=>by
 simp only[zqh]at h;exact .intro okC d h.1 h.2.1 h.2.2 (k r u)
end
def St.ghost {C:Cx}{N:FN}{M':Mem}{G':Nat->Value}{a:Act}(D:St C N M G w env H a)(c:D2 fr M G w H)(B:H.length<=H'.length)
  (r:∀(i:Nat) z y,H[i]?=some z->H'[i]?=some y->isTok z=false->isTok y=false)
  (Y:∀a v,M a=some v->M' a=some v) (h2:Z3 M' w) (V:∀a v,M' a=some v->M a=some v\/own G H a.block) (X:∀(i:Nat) z,H[i]?=some z->isTok z=false->G' i=G i)
  (Z:∀t v,A1 M G (env t) v->A1 M' G' (env' t) v) (h6:Z6 M' G' w H') (h7:∀b,own G' H' b->own G H b):St C N M' G' w env' H' a/\D2 fr M' G' w H':=by
 have U:Ext (own G H) M w M' w:=⟨Y,Nat.le_refl _,rfl,rfl,rfl,λ_ _ _=>rfl,λa v e=>by
  rcases V a v e with e1|e1
  ·exact .inl e1
  ·exact .inr (.inl e1)⟩
 have x:∀{i:Nat} {y:Ob},fr.H0[i]?=some y->∃z,H[i]?=some z:=λd=>⟨_,List.getElem?_eq_getElem (Nat.lt_of_lt_of_le (List.getElem?_eq_some_iff.1 d).1 c.len)⟩
 refine⟨⟨h2,D.gl.ext D.hrel U (λ_ h=>h),h6,λt=>Z t _ (D.env t),D.size,D.defers⟩,c.ext.trans U (λb O=>c.own b O),λb O=>c.own b (h7 b O),Nat.le_trans c.len B,λi y d J=>?_,λi y z d J I=>?_⟩
 ·obtain⟨z,I⟩:=x d;rw[X i z I (c.kind i y z d J I)];exact c.keep i y d J
 ·obtain⟨u,T⟩:=x d;exact r i u z T I (c.kind i y u d J T)
def A1.upd (b:Z6 M G w H){v u:Value}(h:A1 M G x v):A1 M (I3 G H.length u) x v:=
 h.mono (λ_ _ e=>e) λ_ c=>P1 (Nat.ne_of_lt (b.lt h c))
def M5.upd {M:Mem}{G:Nat->Value}{w:World}{H:F0}(J:Z6 M G w H){x:Ob}{g u:Value}(h:M5 M G w x g):M5 M (I3 G H.length u) w x g:=by
 cases x with
 |dead=>trivial
 |row O e=>
  obtain⟨b,Z,z,B,I,d,r,U⟩:=h;exact⟨b,Z,z,B,I,d,λi y v a c=>(r i y v a c).upd J,U⟩
 |bld o' e=>
  obtain⟨b,X,z,B,I,d,r⟩:=h;have D:o'≠H.length:=λe=>d _ (by rw[e];exact J.fresh _ (Nat.le_refl _));exact⟨b,X,z,by rw[P1 D];exact B,I,by rw[P1 D];exact d,r⟩
 |map es=>
  obtain⟨b,V,Y,z,B,I,d,r⟩:=h;exact⟨b,V,Y,z,B,I,λi k T e a c=>⟨(d i k T e a c).1,(d i k T e a c).2.upd J⟩,r⟩
 |buf e sz=>exact h
 |tok e sz=>exact h
 |rok e sz=>exact h
 |gone=>exact h
 |vec e sz T=>exact h
 |slots γ e l=>exact h
def St.arn {C:Cx}{N:FN}{a:Act}(X:St C N M G w env H a)(Z:D2 fr M G w H)(j:Nat)(e:TypeId){cs:List A}{e0:TypeId}(U:H[j]?=some (.row cs e0)) :
  ∃γ,St C N M (I3 G H.length (Cy γ [])) w env (A5 H j .dead++[.slots γ e []]) a/\D2 fr M (I3 G H.length (Cy γ [])) w (A5 H j .dead++[.slots γ e []]):=by
 obtain⟨γ,a4,g1,g2,g3,g4,g5,g6⟩:=X.hrel.obj j _ U;have a1:j<H.length:=(List.getElem?_eq_some_iff.1 U).1;have J:blk (.row cs e0) (G j) γ:=by rw[g1];rfl
 have hγ:γ<w.heap.size:=(Array.getElem?_eq_some_iff.1 g2).1;have r:(A5 H j Ob.dead).length=H.length:=H9 _ _ _;have I:=X.hrel;have x:∀(i:Nat) y,(A5 H j Ob.dead++[Ob.slots γ e []])[i]?=some y->(i=H.length/\y = .slots γ e [])\/(i<H.length/\i=j/\y = .dead)\/(i<H.length/\i≠j/\H[i]?=some y):=λi y d=>by
  rcases Nat.lt_trichotomy i H.length with O|rfl|hgt
  ·rw[List.getElem?_append_left (by rw[r];exact O),C5 H j _ i a1]at d;by_cases u:i=j
   ·rw[if_pos u]at d;cases d;exact .inr (.inl ⟨O,u,rfl⟩)
   ·rw[if_neg u]at d;exact .inr (.inr ⟨O,u,d⟩)
  ·rw[List.getElem?_append_right (by rw[r];exact Nat.le_refl _),r]at d;simp at d;exact .inl ⟨rfl,d.symm⟩
  ·rw[List.getElem?_eq_none (by simp[r];omega)]at d;cases d
 have B:∀(i:Nat) y c,(A5 H j Ob.dead++[Ob.slots γ e []])[i]?=some y->blk y (I3 G H.length (Cy γ []) i) c->(i=H.length/\c=γ)\/(i≠j/\H[i]?=some y/\blk y (G i) c):=λi y c d D=>by
  rcases x i y d with⟨rfl,rfl⟩|⟨_,_,rfl⟩|⟨hl,u,h⟩
  ·rw[C2]at D;have:=Zk.1 D;simp at this;exact .inl ⟨rfl,this⟩
  ·simp[blk]at D
  ·rw[P1 (Nat.ne_of_lt hl)]at D;exact .inr ⟨u,h,D⟩
 refine⟨γ,X.ghost Z (by simp[r]) (λi z y T d ht=>?_) (λ_ _ h=>h) X.good (λ_ _ h=>.inl h) (λi z T ht=>P1 (Nat.ne_of_lt (List.getElem?_eq_some_iff.1 T).1)) (λt v h=>h.upd I) ⟨λi y d=>?_,λi i' y y' c d a0 D a3=>?_,λi hi=>?_⟩ λc hc=>?_⟩
 ·rcases x i y d with⟨rfl,_⟩|⟨_,_,rfl⟩|⟨_,_,h⟩
  ·rw[List.getElem?_eq_none (Nat.le_refl _)]at T;cases T
  ·rfl
  ·rw[T]at h;cases h;exact ht
 ·rcases x i y d with⟨rfl,rfl⟩|⟨_,_,rfl⟩|⟨hl,_,h⟩
  ·rw[C2];exact⟨[],rfl,rfl,by simp,hγ,λi b h=>by simp at h,λa2 sp _=>g6 a2 sp,λi b ds h=>by simp at h⟩
  ·trivial
  ·rw[P1 (Nat.ne_of_lt hl)];exact(I.obj i y h).upd I
 ·rcases B i y c d D with⟨rfl,rfl⟩|⟨q1,V,Y⟩<;>rcases B i' y' c a0 a3 with⟨rfl,h2⟩|⟨p1,p2,p3⟩
  ·rfl
  ·exact absurd (I.apart i' j y' _ c p2 U p3 J) p1
  ·subst h2;exact absurd (I.apart i j y _ c V U Y J) q1
  ·exact I.apart i i' y y' c V p2 Y p3
 ·simp[r]at hi;rw[P1 (by omega)];exact I.fresh i (by omega)
 ·obtain⟨i,y,d,D⟩:=hc;rcases B i y c d D with⟨rfl,rfl⟩|⟨_,V,Y⟩
  ·exact⟨j,_,U,J⟩
  ·exact⟨i,y,V,Y⟩
mutual
def pu (j g i n:Nat):A->A
 |.vsl o=>bif Nat.beq o j then .d (.csl g i 0 n)else .vsl o
 |.vel o k=>bif Nat.beq o j then .d (.cel g i k)else .vel o k
 |.rsl o off len cap=>bif Nat.beq o j then .d (.csl g i off len)else .rsl o off len cap
 |.ref o off=>bif Nat.beq o j then .d (.cel g i off)else .ref o off
 |.clo f cs=>.clo f (puL j g i n cs)
 |.bnd f cs=>.bnd f (puL j g i n cs)
 |.agg cs=>.agg (puL j g i n cs)
 |.tup cs=>.tup (puL j g i n cs)
 |.d y=>.d y
 |.junk=>.junk
 |.mp o=>.mp o
 |.ptr c=>.ptr c
 |.full r=>.full r
 |.osl a r=>.osl a r
def puL (j g i n:Nat):List A->List A
 |[]=>[]
 |y::r=>pu j g i n y::puL j g i n r
end
def E14 (j g i n:Nat):∀l,puL j g i n l=l.map (pu j g i n)
 |[]=>rfl
 |y::r=>by simp only[puL,List.map_cons,E14 j g i n r]
def M2b (v:Value)(b n:Nat):Prop:=v = .pointer (some ⟨b,0,none⟩)\/∃c,v = .slice (some ⟨b,0,none⟩) n c/\n<=c/\c<=maxLen
def N2b {M':Mem}{G':Nat->Value}{j g b:Nat}(V:∀a v,M a=some v->M' a=some v)(O:∀o,(∀vs,G o≠.tuple vs)->G' o=G o)(X:M2b (G j) b n)(hi:M' ⟨g,i,some 1⟩=some (Js b)){v:Value}(h:A1 M G y v):A1 M' G' (pu j g i n y) v:=by
 have r:∀{Z:List A} {vs:Array Value},(∀(k:Nat) J v,Z[k]?=some J->vs[k]?=some v->A1 M' G' (pu j g i n J) v)->∀(k:Nat) J v,(puL j g i n Z)[k]?=some J->vs[k]?=some v->A1 M' G' J v:=by
  intro Z vs hh k J v I hv;rw[E14,List.getElem?_map]at I;cases hc:Z[k]? with
  |none=>rw[hc]at I;cases I
  |some z=>rw[hc]at I;simp at I;subst I;exact hh k z v hc hv
 induction h with
 |d h=>exact .d (h.mono V)
 |junk=>exact .junk
 |@ref o U b' h=>
  simp only[pu];cases hb:Nat.beq o j with
  |false=>exact .ref ((O o (by rw[h];simp)).trans h)
  |true=>
   obtain rfl:=Nat.eq_of_beq_eq_true hb;rcases X with e|⟨c,e,_⟩
   ·rw[h]at e;simp at e;subst e;exact .d (.cel hi)
   ·rw[h]at e;cases e
 |ptr N1 hs D Y=>exact .ptr N1 hs (λj x e=>V _ _ (D j x e)) (λj x e=>(Y j x e).mono V)
 |full h hf=>exact .full (h.mono V) hf
 |@osl o a0 v h hg=>exact .osl (h.mono V) ((O o (by rw[hg];cases h<;>simp)).trans hg)
 |@rsl o U a3 a2 a1 b' h hc T=>
  simp only[pu];cases hb:Nat.beq o j with
  |false=>exact .rsl ((O o (by rw[h];simp)).trans h) hc T
  |true=>
   obtain rfl:=Nat.eq_of_beq_eq_true hb;rcases X with e|⟨c,e,_⟩
   ·rw[h]at e;simp at e;subst e;exact .d (.csl hi hc T)
   ·rw[h]at e;cases e
 |@vsl o a l c h=>
  simp only[pu];cases hb:Nat.beq o j with
  |false=>exact .vsl ((O o (by rw[h];simp)).trans h)
  |true=>
   obtain rfl:=Nat.eq_of_beq_eq_true hb;rcases X with e|⟨c',e,D,Y⟩
   ·rw[h]at e;cases e
   ·rw[h]at e;simp at e;obtain⟨rfl,rfl,rfl⟩:=e;exact .d (.csl hi D Y)
 |@vel o U b' l c h=>
  simp only[pu];cases hb:Nat.beq o j with
  |false=>exact .vel ((O o (by rw[h];simp)).trans h)
  |true=>
   obtain rfl:=Nat.eq_of_beq_eq_true hb;rcases X with e|⟨c',e,D,Y⟩
   ·rw[h]at e;cases e
   ·rw[h]at e;simp at e;obtain⟨rfl,rfl,rfl⟩:=e;exact .d (.cel hi)
 |clo B _ u=>exact .clo (by rw[E14];simpa using B) (r u)
 |bnd B _ u=>exact .bnd (by rw[E14];simpa using B) (r u)
 |agg B D _ u=>exact .agg (by rw[E14];simpa using B) D (r u)
 |tup B _ u=>exact .tup (by rw[E14];simpa using B) (r u)
 |mp h=>exact .mp ((O _ (by rw[h];simp)).trans h)
def M1a:F0->Bool
 |[]=>true
 |.bld _ _::_=>false
 |_::r=>M1a r
def M1p:∀{H:F0} {i:Nat} {y:Ob},M1a H=true->H[i]?=some y->∀o e,y≠.bld o e
 |[],i,y,_,h=>by simp at h
 |x::r,i,y,c,h=>λo e b=>by
  cases x<;>first
   |(simp[M1a]at c;done)
   |(cases i with
     |zero=>simp at h;subst h;cases b
     |succ i=>exact M1p (H:=r) (by simpa[M1a]using c) (by simpa using h) o e b)
def puH (φ:A->A)(j o:Nat)(x:Ob):Nat->F0->F0
 |_,[]=>[]
 |i,y::r=>(bif Nat.beq i j then .dead else bif Nat.beq i o then x else fzO φ y)::puH φ j o x (i+1) r
def O1x {φ:A->A}{j o:Nat}{x:Ob}:∀{H:F0} {i n:Nat},(puH φ j o x i H)[n]?=(H[n]?).map λy=>bif Nat.beq (i+n) j then Ob.dead else bif Nat.beq (i+n) o then x else fzO φ y
 |[],i,n=>by simp[puH]
 |y::r,i,0=>by simp[puH]
 |y::r,i,n+1=>by
  simp only[puH,List.getElem?_cons_succ];rw[O1x,show i+1+n=i+(n+1) by omega]
def L1n {φ:A->A}{j o:Nat}{x:Ob}:∀{H:F0} {i:Nat},(puH φ j o x i H).length=H.length
 |[],_=>rfl
 |y::r,i=>by simp only[puH,List.length_cons,L1n]
def N23 (φ:A->A)(y:Ob):isTok (fzO φ y)=isTok y:=by cases y<;>rfl
def O23 {y:Ob}{v:Value}(hd:(∃sz,y = .vec e sz ds/\sz=1/\1<=ds.length/\n=ds.length)\/∃cs,y = .row cs e/\cs=ds.map .d)(h:M5 M G w y v):∃b,M2b v b n/\blk y v b/\(∀c,blk y v c->c=b)/\Bt M w b e ds ds.length:=by
 rcases hd with⟨sz,rfl,rfl,B,rfl⟩|⟨cs,rfl,rfl⟩
 ·rcases h with⟨_,rfl⟩|⟨a,_,rfl⟩|⟨b,m,u,rfl,z,hc,Y,hm,I⟩
  ·simp at B
  ·simp at B
  ·rw[Nat.mul_one]at z;subst z;refine⟨b,.inr ⟨u,rfl,hc,hm⟩,⟨Y,rfl⟩,λc hc=>hc.2.symm,?_,I.free⟩;obtain⟨r,V,q2,J⟩:=I.ex;exact⟨r,V,by omega,J⟩
 ·obtain⟨b,r,rfl,U,g3,g4,T,O⟩:=h;refine⟨b,.inl rfl,rfl,λc hc=>Eq.symm hc,⟨r,U,by simpa using g3,λi x v X Z=>?_⟩,O⟩;have:=T i (.d x) v (by rw[List.getElem?_map,X];rfl) Z;cases this;assumption
def K0.pu (j o:Nat){F:Fx}{L l:List Oper}{env:Env}{H H':F0}{Q:Env->F0->Prop}{y:Ob}{ds:List D}{e:TypeId}{n γ:Nat}{ls c0:List (List D)}{m:Nat}(hj:nth H j=some y)(hd:(∃sz,y = .vec e sz ds/\sz=1/\1<=ds.length/\n=ds.length)\/∃cs,y = .row cs e/\cs=ds.map .d)
  (X:nth H o=some (.slots γ e ls)) (hm:m=ls.length) (c5:c0=ls++[ds]) (hb:M1a H=true) (hH:R9 (puH (Go.Am.pu j γ m n) j o (.slots γ e c0) 0 H)=some H') (k:K0 F L l (λt=>Go.Am.pu j γ m n (env t)) H' Q):K0 F L l env H Q:=by
 obtain rfl:=Mg hH;subst hm;subst c5;rw[Q2]at hj X;intro fr M G w a Qw hK b5 hs c4 hq;have hh:=hs.hrel;obtain⟨b,b1,a7,c7,a8⟩:=O23 hd (hh.obj j _ hj);obtain⟨bs,g1,g2,g3,g4,g5,g6,g7⟩:=hh.obj o _ X;have c3:j≠o:=λe'=>by
  subst e';rw[hj]at X;simp only[Option.some.injEq]at X;subst X;rcases hd with⟨sz,h,_⟩|⟨cs,h,_⟩<;>cases h
 have Z:∀c,c∈γ::bs->blk (.slots γ e ls) (G o) c:=λc hc=>by rw[g1];exact Zk.2 hc
 have b6:b∉γ::bs:=λhc=>c3 (hh.apart j o _ _ b hj X a7 (Z b hc))
 let M':Mem:=λV=>if V=⟨γ,ls.length,some 1⟩then some (Js b)else M V
 have b0:M' ⟨γ,ls.length,some 1⟩=some (Js b):=if_pos rfl;have a3:∀V,V≠⟨γ,ls.length,some 1⟩->M' V=M V:=λV h=>if_neg h;have O:∀V v,M V=some v->M' V=some v:=λV v B=>by
  rw[a3]
  ·exact B
  ·rintro rfl;rw[g6 _ _ (λ_=>Nat.le_refl _)]at B;cases B
 have a6:∀c T sp,c≠γ->M ⟨c,T,sp⟩=none->M' ⟨c,T,sp⟩=none:=λc T sp hc hn=>by
  rw[a3]
  ·exact hn
  ·intro B;cases B;exact hc rfl
 let G':Nat->Value:=I3 G o (Cy γ (bs++[b]))
 have c6:∀o',(∀vs,G o'≠.tuple vs)->G' o'=G o':=λo' h'=>P1 λB=>by subst B;rw[g1]at h';exact h' _ rfl
 have a9:∀y v,A1 M G y v->A1 M' G' (Go.Am.pu j γ ls.length n y) v:=λy v h=>N2b O c6 b1 b0 h;have a5:∀(i:Nat) z,(puH (Go.Am.pu j γ ls.length n) j o (.slots γ e (ls++[ds])) 0 H)[i]?=some z->(i=j/\z = .dead)\/(i=o/\z = .slots γ e (ls++[ds]))\/(i≠j/\i≠o/\∃q,H[i]?=some q/\z=fzO (Go.Am.pu j γ ls.length n) q):=λi z I=>by
  rw[O1x]at I;cases hi:H[i]? with
  |none=>rw[hi]at I;cases I
  |some q=>
   rw[hi]at I;simp only[Option.map_some,Option.some.injEq,Nat.zero_add]at I;cases h1:Nat.beq i j with
   |true=>rw[h1]at I;exact .inl ⟨Nat.eq_of_beq_eq_true h1,I.symm⟩
   |false=>
    rw[h1]at I;have n1:i≠j:=λe=>by subst e;simp at h1
    cases h2:Nat.beq i o with
    |true=>rw[h2]at I;exact .inr (.inl ⟨Nat.eq_of_beq_eq_true h2,I.symm⟩)
    |false=>
     rw[h2]at I;exact .inr (.inr ⟨n1,λe=>by subst e;simp at h2,q,rfl,I.symm⟩)
 have a0:∀(i:Nat) z c,(puH (Go.Am.pu j γ ls.length n) j o (.slots γ e (ls++[ds])) 0 H)[i]?=some z->blk z (G' i) c->(i=o/\c∈γ::bs)\/(i=o/\c=b)\/(i≠j/\i≠o/\∃q,H[i]?=some q/\blk q (G i) c):=λi z c I hc=>by
  rcases a5 i z I with⟨_,rfl⟩|⟨rfl,rfl⟩|⟨n1,n2,q,hq,rfl⟩
  ·simp[blk]at hc
  ·have b3:blk (.slots γ e (ls++[ds])) (Cy γ (bs++[b])) c:=by
    have:G' i=Cy γ (bs++[b]):=C2;rw[this]at hc;exact hc
   have:=Zk.1 b3;rcases List.mem_cons.1 this with h|h
   ·exact .inl ⟨rfl,h▸List.mem_cons_self⟩
   ·rcases List.mem_append.1 h with h|h
    ·exact .inl ⟨rfl,List.mem_cons_of_mem _ h⟩
    ·exact .inr (.inl ⟨rfl,by simpa using h⟩)
  ·rw[H1x,show G' i=G i from P1 n2]at hc;exact .inr (.inr ⟨n1,n2,q,hq,hc⟩)
 have b9:=hs.ghost (M':=M') (G':=G') (env':=λt=>Go.Am.pu j γ ls.length n (env t)) c4 (H':=puH (Go.Am.pu j γ ls.length n) j o (.slots γ e (ls++[ds])) 0 H) (by rw[L1n];exact Nat.le_refl _) (λi z z' I b4 ht=>?_) O (λV v B=>?_) (λV v B=>?_)
  (λi z I ht=>P1 λB=>by subst B;rw[X]at I;cases I;cases ht) (λt v h=>a9 _ _ h) ⟨λi z I=>?_,λi i' z z' c I b4 hc b3=>?_,λi hi=>?_⟩ λc hc=>?_
 ·exact k fr M' G' w a Qw hK b5 b9.1 b9.2 hq
 ·rcases a5 i z' b4 with⟨_,rfl⟩|⟨rfl,rfl⟩|⟨_,_,q,J,rfl⟩
  ·rfl
  ·rw[X]at I;cases I;cases ht
  ·rw[I]at J;cases J;rw[N23];exact ht
 ·by_cases h:V=⟨γ,ls.length,some 1⟩
  ·subst h;rw[b0]at B;cases B;exact .inr (.inr ⟨rfl,g4,b,rfl⟩)
  ·rw[a3 _ h]at B;exact hs.good V v B
 ·by_cases h:V=⟨γ,ls.length,some 1⟩
  ·subst h;exact .inr ⟨o,_,X,Z γ List.mem_cons_self⟩
  ·rw[a3 _ h]at B;exact .inl B
 ·rcases a5 i z I with⟨_,rfl⟩|⟨rfl,rfl⟩|⟨n1,n2,q,J,rfl⟩
  ·trivial
  ·have:G' i=Cy γ (bs++[b]):=C2;rw[this];refine⟨bs++[b],rfl,by simp[g2],?_,g4,λk c Y=>?_,λT sp b8=>?_,λk c es Y a4=>?_⟩
   ·rw[<-List.cons_append];refine List.nodup_append.2 ⟨g3,by simp,λx hx y hy=>?_⟩;simp at hy;subst hy;exact λB=>b6 (B▸hx)
   ·rcases Nat.lt_or_ge k bs.length with h|h
    ·rw[List.getElem?_append_left h]at Y;exact O _ _ (g5 k c Y)
    ·rw[List.getElem?_append_right h]at Y;have b2:k=bs.length:=by have:=(List.getElem?_eq_some_iff.1 Y).1;simp at this;omega
     subst b2;simp at Y;subst Y;rw[g2];exact b0
   ·rw[a3]
    ·exact g6 T sp λB=>by have:=b8 B;simp at this;omega
    ·intro B;cases B;have:=b8 rfl;simp at this;omega
   ·have keep:∀{c es' m},c≠γ->Bt M w c e es' m->Bt M' w c e es' m:=λhc h=>h.keep O rfl λT sp hn=>a6 _ T sp hc hn;rcases Nat.lt_or_ge k bs.length with h|h
    ·rw[List.getElem?_append_left h]at Y;rw[List.getElem?_append_left (by omega)]at a4;refine keep (λB=>?_) (g7 k c es Y a4);subst B;exact(List.nodup_cons.1 g3).1 (List.mem_of_getElem? Y)
    ·rw[List.getElem?_append_right h]at Y;have b2:k=bs.length:=by have:=(List.getElem?_eq_some_iff.1 Y).1;simp at this;omega
     subst b2;rw[List.getElem?_append_right (by omega),show bs.length-ls.length=0 by omega]at a4;simp at Y a4;subst Y;subst a4;exact keep (λB=>b6 (B▸List.mem_cons_self)) a8
  ·have b7:=hh.obj i q J;have U:M5 M' G w q (G i):=b7.keep O (Nat.le_refl _) (λ_ _=>rfl) λc hc T sp hn=>a6 c T sp (λB=>n2 (hh.apart i o _ _ c J X hc (B▸Z γ List.mem_cons_self))) hn;rw[show G' i=G i from P1 n2];cases q with
   |dead=>trivial
   |row cs e'=>
    obtain⟨c,vs,q1,q2,q3,q4,q5,q6⟩:=b7;obtain⟨c2,c8,p1,p2,p3,p4,p5,p6⟩:=U;rw[q1]at p1;simp at p1;subst p1;refine⟨c,vs,q1,q2,by simpa using q3,q4,λm x v hx hv=>?_,p6⟩;rw[List.getElem?_map]at hx;cases hc:cs[m]? with
    |none=>rw[hc]at hx;cases hx
    |some u=>rw[hc]at hx;simp at hx;subst hx;exact a9 _ _ (q5 m u v hc hv)
   |bld o' e'=>exact absurd rfl (M1p hb J o' e')
   |map es=>
    obtain⟨c,ms,cl,q1,q2,q3,q4,q5,q6⟩:=U;refine⟨c,ms,cl,q1,q2,q3,λm kk cs e' a1 a2=>⟨(q4 m kk cs e' a1 a2).1,(q4 m kk cs e' a1 a2).2.bare ?_⟩,q5,q6⟩;have:∀l:List D,R2 0 (l.map .d)=true:=λl=>by
     induction l with
     |nil=>rfl
     |cons x r ih=>simp[R2,P4,ih]
    match cs with
    |[]=>rfl
    |[x]=>rfl
    |x::y::r=>simp only[Mc,P4];exact this _
   |buf e sz=>exact U
   |tok e sz=>exact U
   |rok e sz=>exact U
   |gone=>exact U
   |vec e sz cs=>exact U
   |slots γ e l=>exact U
 ·rcases a0 i z c I hc with⟨rfl,h⟩|⟨rfl,rfl⟩|⟨n1,n2,q,J,h⟩<;>rcases a0 i' z' c b4 b3 with⟨B,h'⟩|⟨B,h'⟩|⟨n1',n2',q',hq'',h'⟩
  ·exact B.symm
  ·exact B.symm
  ·exact absurd (hh.apart i' i _ _ c hq'' X h' (Z c h)) n2'
  ·exact B.symm
  ·exact B.symm
  ·exact absurd (hh.apart i' j _ _ c hq'' hj h' a7) n1'
  ·subst B;exact absurd (hh.apart i i' _ _ c J X h (Z c h')) n2
  ·subst B;subst h';exact absurd (hh.apart i j _ _ c J hj h a7) n1
  ·exact hh.apart i i' _ _ c J hq'' h h'
 ·have hl:H.length<=i:=by rw[L1n]at hi;exact hi
  have c1:i≠o:=λB=>by subst B;have:=(List.getElem?_eq_some_iff.1 X).1;omega
  rw[show G' i=G i from P1 c1];exact hh.fresh i hl
 ·obtain⟨i,z,I,hc⟩:=hc;rcases a0 i z c I hc with⟨rfl,h⟩|⟨rfl,rfl⟩|⟨_,_,q,J,h⟩
  ·exact⟨i,_,X,Z c h⟩
  ·exact⟨j,_,hj,a7⟩
  ·exact⟨i,q,J,h⟩
def K0.arn (j:Nat)(e:TypeId){F:Fx}{L l:List Oper}{env:Env}{H d:F0}{Q:Env->F0->Prop}{cs:List A}{y:TypeId}(c:nth H j=some (.row cs y))(x:Zc H j .dead=some d)
  (k:∀γ,K0 F L l env (d++[.slots γ e []]) Q):K0 F L l env H Q:=by
 obtain rfl:=Rj x;rw[Q2]at c;intro r M G w a J D B I b u;obtain⟨γ,z,v⟩:=I.arn b j e c;exact k γ r M _ w a J D B z v u
def C1i (z:Z6 M G w H){b:Nat}{l:List (List D)}(u:H[p]?=some (.slots γ e l))(r:l[i]?=some ds)(I:M ⟨γ,i,some 1⟩=some (Js b)) :
  Bt M w b e ds ds.length/\blk (.slots γ e l) (G p) b:=by
 obtain⟨J,x,y,U,T,v,O,B⟩:=z.obj p _ u;have d:i<J.length:=by rw[y];exact(List.getElem?_eq_some_iff.1 r).1
 have c:=List.getElem?_eq_getElem d;have:=v i _ c;rw[I]at this;simp only[Option.some.injEq]at this;have:=Q1c this;rw[<-this]at c;exact⟨B i b ds c r,by rw[x];exact Zk.2 (List.mem_cons_of_mem _ (List.mem_of_getElem? c))⟩
def M1n {g:Nat}{v:Value}(h:A1 M G (.d (.csl g i off len)) v):∃cap b,M ⟨g,i,some 1⟩=some (Js b)/\len<=cap/\cap<=maxLen/\v = .slice (some ⟨b,off,none⟩) len cap:=by
 cases h;rename_i h;cases h;exact⟨_,_,by assumption,by assumption,by assumption,rfl⟩
def V1d (C:Cx)(L:List Oper)(o:Oper)(env:Env):Option (Option Nat×Nat×Nat×Nat):=
 match K1 L env o,o.op,O3 o with
 |some true,.load t x,some d=>match Z1 C.T t,ev C.GL env x with
  |some i,.d (.cel g k off)=>bif i.u.agg then none else some (d,g,k,off)
  |_,_=>none
 |_,_,_=>none
def A1h {C:Cx}{r:Nat×Nat×Nat}(h:V1d C L o env=some (d,r)):K1 L env o=some true/\O3 o=some d:=by
 unfold V1d at h;split at h
 ·rename_i b _ c;split at h
  ·rw[cond_eq_ite]at h;split at h
   ·cases h
   ·cases h;exact⟨b,c⟩
  ·cases h
 ·cases h
def P23 {C:Cx}(hC:T1 C){k:Nat}(h:V1d C L o env=some (d,γ,i,k)){l:List (List D)}{x:D}(V:nth H p=some (.slots γ e l))(hl:l[i]?=some ds)(Y:ds[k]?=some x) :
  R4 C o env H (.d x):=by
 intro M G w a a0 Qw X hG a2 hH O;unfold V1d at h;split at h
 ·rename_i t y d' hw I hd;rw[I]at X;split at h
  ·rename_i ti g c a1 ht hy;rw[cond_eq_ite]at h;split at h
   ·cases h
   ·rename_i T;cases h;have r:=X y (by simp[Op.operands]);rw[hy]at r;generalize hyv:a.eval y=yv at r;cases r;rename_i r;cases r;rename_i b hm;rw[Q2]at V;obtain⟨⟨U,c1,c2,c4⟩,c5⟩:=(C1i hH V hl hm).1;have J:k<U.size:=Nat.lt_of_lt_of_le (List.getElem?_eq_some_iff.1 Y).1 c2;have Z:=Array.getElem?_eq_getElem J;have v:=c4 k x _ Y Z;obtain⟨u,hu,hr⟩:=C17 (P:=C.P) (M:=M) (G:=G) (hC.tok.facts ht) w ⟨b,k,none⟩ [.d x] (λ_=>U[k]) (λj z B=>by
     cases j with
     |zero=>rw[B5,Ye c1];exact Z
     |succ j=>simp at B) (λj z B=>by
     cases j with
     |zero=>simp at B;subst B;exact .d v
     |succ j=>simp at B) (λj z B=>v.one) (x:=.d x) (by
     unfold Kq;cases hb:ti.u.agg with
     |true=>exact absurd hb T
     |false=>rfl)
    unfold Oper.wp execOp;simp only[I,hyv,Instr.loadAt,Instr.sureAddr,Sem.run_bind,Sem.run_pure,hu,Result.andThen_ok,Oper.upon_value];exact O _ M w hr hG (Ext.refl _ _ _)
  ·cases h
 ·cases h
def B19 (C:Cx)(L:List Oper)(o:Oper)(env:Env):Option (Option Nat×(Nat×Nat×Nat×Nat)×Int×Int):=
 match K1 L env o,o.op with
 |some true,.slice t x lo hi none=>match Z1 C.T t,ev C.GL env x,O3 o with
  |some i,.d (.csl g k off len),some d=>match i.u,bnd C.GL env lo 0,bnd C.GL env hi (len:Nat)with
   |.sl e,some l,some h=>match Z1 C.T e with|some j=>bif Nat.beq j.size 1 then some (d,(g,k,off,len),l,h)else none|none=>none
   |_,_,_=>none
  |_,_,_=>none
 |_,_=>none
def K11 {C:Cx}{r:(Nat×Nat×Nat×Nat)×Int×Int}(h:B19 C L o env=some (d,r)):K1 L env o=some true/\O3 o=some d:=by
 unfold B19 at h;split at h
 ·rename_i b _;split at h
  ·rename_i c;split at h
   ·split at h
    ·obtain⟨_,h⟩:=B7 h;cases h;exact⟨b,c⟩
    ·cases h
   ·cases h
  ·cases h
 ·cases h
def N1p {C:Cx}(hC:T1 C){g k off len:Nat}{lo Y:Int}(h:B19 C L o env=some (d,(g,k,off,len),lo,Y)){l r:Nat}(hl:lo=l)(hr:Y=r)(T:l<r)(a2:r<=len) :
  R4 C o env H (.d (.csl g k (off+l) (r-l))):=by
 intro M G w a a0 Qw v hG a3 hH B;unfold B19 at h;split at h
 ·rename_i t x U I hw V;rw[V]at v;split at h
  ·rename_i i g' k' X a1 d' ht hx Z;split at h
   ·rename_i e l' h' hu D J;split at h
    ·rename_i j hj;obtain⟨u,h⟩:=B7 h;have u:=Nat.eq_of_beq_eq_true u;cases h;have c:=v x (by simp[Op.operands]);rw[hx]at c;generalize hxv:a.eval x=xv at c;obtain⟨cap,b,_,_,_,rfl⟩:=M1n c;have Z:=A7 (hC.tok.facts ht) hu;have e1:=A14 (M18 D λy z=>v y (by subst z;simp[Op.operands])) hl rfl;have e2:=A14 (M18 J λy z=>v y (by subst z;simp[Op.operands])) hr rfl;have:(Instr.sliceAt t (.slice (some ⟨b,off,none⟩) len cap) (U.map a.eval) (I.map a.eval) none).run C.P w = .ok (.slice (some ⟨b,off+l,none⟩) (r-l) (cap-l)) w:=by
      have hb:=E1a (P:=C.P) (w:=w) (Ht:=true) (len:=len) (cap:=cap) e1 e2 (Nat.le_of_lt T) (by omega);have O:¬cap=l:=by omega
      simp[Instr.sliceAt,Instr.slice,run_underlying Z,hb,D9 (hC.tok.facts hj) w,O,u,B5]
     unfold Oper.wp execOp;simp only[V,hxv,Option.map_none,Sem.run_bind,this,Result.andThen_ok,Sem.run_pure,Oper.upon_value];exact B _ M w (.d (.csl (by assumption) (by omega) (by omega))) hG (Ext.refl _ _ _)
    ·cases h
   ·cases h
  ·cases h
 ·cases h
def Q29 (hH:Z6 M G w H){q:Nat}{l:List (List D)}(Y:nth H q=some (.slots γ e l))(hl:l[i]?=some ds)(a0:off+len<=ds.length){v:Value}(J:A1 M G (.d (.csl γ i off len)) v) :
  Src M w 1 (((ds.drop off).take len).map λx=>[x]) v:=by
 obtain⟨V,b,U,hc,hm,rfl⟩:=M1n J;rw[Q2]at Y;obtain⟨⟨T,c1,c2,c4⟩,c5⟩:=(C1i hH Y hl U).1;have z:(((ds.drop off).take len).map λx=>[x]).length=len:=by simp;omega
 have X:∀{i r x},(((ds.drop off).take len).map λx:D=>[x])[i]?=some r->r[0]?=some x->i<len/\ds[off+i]?=some x:=λ{i r x} c O=>by
  rw[List.getElem?_map,List.getElem?_take]at c;split at c
  ·rw[List.getElem?_drop]at c;cases B:ds[off+i]? with
   |none=>rw[B]at c;cases c
   |some y=>rw[B]at c;cases c;simp at O;subst O;exact⟨by assumption,rfl⟩
  ·cases c
 refine⟨λi _=>(T[off+i]?).getD undef,λi j r x c O=>?_,.inr ⟨⟨b,off,none⟩,V,by rw[z],λq u hu=>?_⟩⟩
 ·cases j with
  |succ j=>
   rw[List.getElem?_map]at c;cases B:((ds.drop off).take len)[i]? with
   |none=>rw[B]at c;cases c
   |some y=>rw[B]at c;cases c;simp at O
  |zero=>
   obtain⟨_,B⟩:=X c O;have I:off+i<T.size:=Nat.lt_of_lt_of_le (List.getElem?_eq_some_iff.1 B).1 c2;have J:=Array.getElem?_eq_getElem I;show F2 M x ((T[off+i]?).getD undef);rw[J];exact c4 _ x _ B J
 ·obtain⟨_,Z,_,_,rfl⟩:=T1o hu;rw[z]at Z;simp only[Nat.div_one]at Z⊢;have I:off+q<T.size:=by omega
  have J:=Array.getElem?_eq_getElem I;rw[B5,Ye c1,J];exact⟨rfl,(c4 _ _ _ (List.getElem?_eq_getElem (by omega)) J).one⟩
def K0.as (q:Nat){F:Fx}(hC:T1 F.C){B:Bool}{nn rs:List Row}{b:Nat}{y:Operand}{ls:List (List D)}
  (h:(C1d dgH F.C L o env H,ev F.C.GL env y,nth H q)=(some (⟨d,p,B,rows,nn,1,b,H'⟩,y),.d (.csl γ i off len),some (.slots γ e ls))) (U:ls[i]?=some ds) (u:off+len<=ds.length) (z:rs=rows++((ds.drop off).take len).map λx=>[x]) (V:∀r∈rows,r.length=1)
  (J:(rows.length+len)*(b+1)<=140737488355328) (k:K0 F L l (put (bif B then env else λt=>dg [p] (env t)) d (.osl p rs)) H' Q):K0 F L (o::l) env H Q:=by
 simp only[Prod.mk.injEq]at h;obtain⟨O,T,X⟩:=h;subst z;refine .ay dgH hC (λ_ _ e=>Br e) O (λM G w v _ I c=>Q29 I X U u (by rw[T]at c;exact c)) V (λr c=>?_) ?_ k
 ·obtain⟨_,_,rfl⟩:=List.mem_map.1 c;rfl
 ·have:(((ds.drop off).take len).map λx:D=>[x]).length=len:=by simp;omega
  rw[this];exact J
def C1t (C:Cx)(L:List Oper)(o:Oper)(env:Env):Option (Option Nat×(Nat×Nat×Nat×Nat)×List Row):=
 match K1 L env o,o.op,O3 o with
 |some true,.call { callee:=.builtin .copy,args,argTypes },some d=>
  match args.toList,argTypes.toList with
  |[x,y],[t,_]=>match Z1 C.T t,ev C.GL env x,Mn (ev C.GL env y)with
   |some it,.d (.csl g k off len),some rows=>match it.u with
    |.sl e=>match Z1 C.T e with
     |some ie=>bif Nat.beq ie.size 1 then some (d,(g,k,off,len),rows)else none
     |none=>none
    |_=>none
   |_,_,_=>none
  |_,_=>none
 |_,_,_=>none
def M1w {P:Program}{ρ:Operand->Value}{x y:Operand}{t t':TypeId}{args:Array Operand}{b:Array TypeId}(d:o.op = .call { callee:=.builtin .copy,args:=args,argTypes:=b })(u:args.toList=[x,y])(r:b.toList=[t,t']){c:World}{v:Value}
  (h:(Builtin.copy_ #[t,t'] o.type #[ρ x,ρ y]).run P w = .ok v c):(execOp ρ o).run P w = .ok (.value v) c:=by
 obtain rfl:args = #[x,y]:=by rw[<-Array.toArray_toList (xs:=args),u]
 obtain rfl:b = #[t,t']:=by rw[<-Array.toArray_toList (xs:=b),r]
 unfold execOp;simp[d,resolve,invoke,builtin,h]
def N14 (ds:List D)(off:Nat)(xs:List D):List D:=ds.take off++xs++ds.drop (off+xs.length)
def D1t {xs:List D}(h:off+xs.length<=ds.length):(N14 ds off xs).length=ds.length:=by
 simp only[N14,List.length_append,List.length_take,List.length_drop];omega
def D1i {xs:List D}(h:off+xs.length<=ds.length):(N14 ds off xs)[i]?=if off<=i/\i<off+xs.length then xs[i-off]? else ds[i]?:=by
 unfold N14;by_cases h1:i<off
 ·rw[List.getElem?_append_left (by simp;omega),List.getElem?_append_left (by simp;omega),List.getElem?_take,if_pos h1,if_neg (by omega)]
 ·by_cases h2:i<off+xs.length
  ·rw[List.getElem?_append_left (by simp;omega),List.getElem?_append_right (by simp;omega),if_pos (by omega)];congr 1;simp;omega
  ·rw[List.getElem?_append_right (by simp;omega),if_neg (by omega),List.getElem?_drop];congr 1;simp;omega
def Q23 (h:∀r∈rows,r.length=1):rows.flatten.length=rows.length:=by rw[Rr h,Nat.mul_one]
def R2c {b:Nat}{c:List Nat}{l:List (List D)}(x:c.length=l.length)(u:∀(i b:Nat),c[i]?=some b->M ⟨γ,i,some 1⟩=some (Js b))(y:l[i]?=some ds)(v:M ⟨γ,i,some 1⟩=some (Js b)):c[i]?=some b:=by
 have d:i<c.length:=by rw[x];exact(List.getElem?_eq_some_iff.1 y).1
 have r:=List.getElem?_eq_getElem d;have:=u i _ r;rw[v]at this;simp only[Option.some.injEq]at this;rw[r,Q1c this]
def K0.cp (p:Nat){F:Fx}(hC:T1 F.C){ls a8:List (List D)}
  (h:(C1t F.C L o env,nth H p)=(some (d,(γ,i,off,len),rows),some (.slots γ e ls))) (hl:ls[i]?=some ds) (hz:∀r∈rows,r.length=1) (hm:rows.length=m) (h0:0<m) (c7:m<=len) (d6:off+m<=ds.length) (d0:a8=ls.set i (N14 ds off rows.flatten))
  (hH:Zc H p (.slots γ e a8)=some H') (k:K0 F L l (put env d (.d (.int .i64 (m:Nat)))) H' Q):K0 F L (o::l) env H Q:=by
 simp only[Prod.mk.injEq]at h;obtain⟨h,ho⟩:=h;obtain rfl:=Rj hH;subst d0;subst hm;unfold C1t at h;split at h
 ·rename_i d3 ts dd hw c9 hd;split at h
  ·rename_i x y t t' ha ht;split at h
   ·rename_i it g' k' d8 d4 b6 b2 hx hy;split at h
    ·rename_i e' hu;split at h
     ·rename_i ie b7;obtain⟨a2,h⟩:=B7 h;have a2:=Nat.eq_of_beq_eq_true a2;cases h;refine T6 hw λfr M G w a K Qw hK b1 hs c5 hk=>?_;have Z:=hs.eval x;rw[hx]at Z;generalize hxv:a.eval x=xv at Z;obtain⟨c0,b,a1,d2,e2,rfl⟩:=M1n Z;rw[Q2]at ho;obtain⟨I,a5⟩:=C1i hs.hrel ho hl a1;obtain⟨vs,c1,c2,c4⟩:=I.ex;obtain⟨B,b5,b0⟩:=C1a hs.good (L9 hy (hs.eval y)) hz;have c6:=A7 (hC.tok.facts b2) hu;obtain⟨d7,hi,a7,_⟩:=(hC.tok.facts b7).info;rcases b0 with⟨_,rfl⟩|⟨na,a4,d1,e0,d9,d5,e3,O⟩
      ·simp at h0
      ·have T:(R3 1 rows.length B).length=rows.length:=by rw[G7,Nat.mul_one]
       have a6:∀u∈R3 1 rows.length B,u.oneCell'=true:=λu c3=>by
        obtain⟨j,hj⟩:=List.getElem?_of_mem c3;exact(O j u hj).2
       have Y:=run_copy_row (P:=F.C.P) w t t' o.type e' b off len c0 na rows.length a4 vs e (R3 1 rows.length B) c6 (by rw[hi];simp[a7,a2]) c1 (by rw[T];exact(Nat.min_eq_left c7).symm) (λj u hj=>(O j u hj).1) (by rw[T];omega) a6;rw[T]at Y
       let cs:List Value:=vs.toList.take off++R3 1 rows.length B++vs.toList.drop (off+rows.length)
       have c8:cs.length=vs.size:=by
        simp only[cs,List.length_append,List.length_take,List.length_drop,Array.length_toList,T];omega
       have a9:∀n,cs[n]?=if off<=n/\n<off+rows.length then(R3 1 rows.length B)[n-off]? else vs.toList[n]?:=λn=>by
        have:=Fy vs.toList off (R3 1 rows.length B) n (by rw[T];simp;omega);rw[T]at this;exact this
       have b3:∀(q:Nat) z,rows.flatten[q]?=some z->q<rows.length/\F2 M z (B q 0):=λq z hq=>by
        obtain⟨i1,j1,r1,rfl,q2,q3,q4⟩:=J11 hz hq;obtain rfl:j1=0:=by omega
        rw[Nat.mul_one,Nat.add_zero];exact⟨(List.getElem?_eq_some_iff.1 q3).1,b5 i1 0 r1 z q3 q4⟩
       have J:=Q23 hz;have X:Ext (λc=>c=b) M w M (w.setRow b cs.toArray):=⟨λ_ _ e=>e,by rw[Ni];exact Nat.le_refl _,rfl,rfl,rfl,λc _ hc=>setRow_other w b c _ hc,λ_ _ e=>.inl e⟩
       have a0:=setRow_heap w b vs cs.toArray e (0,0) c1;have b8:M5 M G (w.setRow b cs.toArray) (.slots γ e (ls.set i (N14 ds off rows.flatten))) (G p):=by
        obtain⟨bs,g1,g2,g3,g4,g5,g6,g7⟩:=hs.hrel.obj p _ ho;refine⟨bs,g1,by rw[List.length_set];exact g2,g3,by rw[Ni];exact g4,g5,by rw[List.length_set];exact g6,λn c es hn V=>?_⟩;by_cases hin:n=i
        ·subst hin;have b9:n<ls.length:=(List.getElem?_eq_some_iff.1 hl).1;rw[List.getElem?_set_self b9]at V;cases V;have:c=b:=by
          have:=g5 n c hn;rw[a1]at this;simp only[Option.some.injEq]at this;exact(Q1c this).symm
         subst this;refine⟨⟨cs.toArray,a0,by rw[D1t (by rw[J];omega)];simp[c8];exact c2,λq z v U hv=>?_⟩,I.free⟩
         ·rw[List.getElem?_toArray,a9 q]at hv;rw[D1i (by rw[J];omega),J]at U;split at hv
          ·rename_i hc;rw[if_pos hc]at U;obtain⟨f1,f2⟩:=b3 _ z U;have a3:(R3 1 rows.length B)[(q-off)*1+0]?=some v:=by rw[Nat.mul_one];exact hv
           rw[Sx (by omega) f1]at a3;cases a3;exact f2
          ·rename_i hc;rw[if_neg hc]at U;exact c4 q z v U (by simpa using hv)
        ·rw[List.getElem?_set_ne (λh=>hin h.symm)]at V;refine(g7 n c es hn V).keep (λ_ _ e=>e) (setRow_other w b c _ λe1=>?_) (λ_ _ h=>h);subst e1;have b4:=(List.nodup_cons.1 g3).2;have hb:=R2c g2 g5 hl a1;exact hin ((List.getElem?_inj (List.getElem?_eq_some_iff.1 hn).1 b4).1 (hn.trans hb.symm))
       unfold Oper.wp;rw[M1w c9 ha ht (by rw[hxv,d1];exact Y)];rw[<-W2 hd]at k;refine hk _ _ _ _ _ _ _ k (hs.setOb (A4 b1) ho a5 (λc hc=>?_) X (λoff sp=>I.free off sp) b8 (.d (.int (J10 (by omega))))) (c5.setOb ho a5 (λc hc=>?_) (λh=>by cases h) X)
       all_goals
        obtain⟨bs,g1,_⟩:=hs.hrel.obj p _ ho;rw[g1]at hc⊢;exact Zk.2 (Zk.1 hc)
     ·cases h
    ·cases h
   ·cases h
  ·cases h
 ·cases h
def W1d (C:Cx)(L:List Oper)(o:Oper)(env:Env):Option (Option Nat×List Row×Bool):=
 match K1 L env o,o.op,O3 o with
 |some true,.binOp op t x (.const (.slice none 0 0)) _,some d=>match Z1 C.T t,W15 op with
  |some i,some neg=>match i.u,ev C.GL env x with
   |.sl _,.d (.csl _ _ _ _)=>some (d,[[]],neg)
   |.sl _,.d (.sl rows)=>some (d,rows,neg)
   |.sl _,.full rows=>some (d,rows,neg)
   |.sl _,.osl _ rows=>some (d,rows,neg)
   |_,_=>none
  |_,_=>none
 |_,_,_=>none
def B1h {C:Cx}{r:List Row×Bool}(h:W1d C L o env=some (d,r)):K1 L env o=some true/\O3 o=some d:=by
 unfold W1d at h;split at h
 ·rename_i b _ c;split at h
  ·split at h<;>first|(cases h;exact⟨b,c⟩)|cases h
  ·cases h
 ·cases h
def R23 {C:Cx}(hC:T1 C){neg:Bool}(h:W1d C L o env=some (d,rows,neg))(J:0<rows.length):R4 C o env H (.d (.bool neg)):=by
 intro M G w a a1 Qw hρ hG a2 hH a0;have r:∀{rs:List Row} {v:Value},F2 M (.sl rs) v->0<rs.length->∃O y B,v = .slice (some O) y B:=λh h0=>by
  cases h with
  |slnil=>simp at h0
  |sl=>exact⟨_,_,_,rfl⟩
 unfold W1d at h;split at h
 ·rename_i op t x t' d' hw ho hd;rw[ho]at hρ;have z:=hρ x (by simp[Op.operands]);split at h
  ·rename_i i I ht T;have Z:=P1j T;obtain⟨e,⟨O,y,B,U⟩,D,rfl⟩:∃e,(∃O y B,a.eval x = .slice (some O) y B)/\i.u = .sl e/\I=neg:=by
    split at h
    ·rename_i e _ _ _ _ D c;cases h;rw[c]at z;generalize a.eval x=xv at z;cases z;rename_i z;cases z;exact⟨e,⟨_,_,_,rfl⟩,D,rfl⟩
    ·rename_i e _ D c;cases h;rw[c]at z;exact⟨e,r (L9 rfl z) J,D,rfl⟩
    ·rename_i e _ D c;cases h;rw[c]at z;exact⟨e,r (L9 rfl z) J,D,rfl⟩
    ·rename_i e _ _ D c;cases h;rw[c]at z;exact⟨e,r (L9 rfl z) J,D,rfl⟩
    ·cases h
   have V:=A7 (hC.tok.facts ht) D;obtain⟨v,h1,h2⟩:=Hl (P:=C.P) (M:=M) (G:=G) (w:=w) Z false (t:=t) (a:=.slice (some O) y B) (b:=.slice none 0 0) (λn=>by simp[Op.equalIn,run_underlying V]) rfl rfl;have hg:=G13 (P:=C.P) (w:=w) (op:=op) (t:=t) (X:=x) (Y:=.const (.slice none 0 0)) (a:=a.eval x) (b:=.slice none 0 0) (by rw[U];simp) (by rw[U];simp);have hr:(execOp a.eval o).run C.P w = .ok (.value v) w:=by
    unfold execOp;have hc:a.eval (.const (.slice none 0 0)) = .slice none 0 0:=rfl;rw[U]at hg;simp only[ho,hc,U,Sem.run_bind,hg,h1,Result.andThen_ok,Sem.run_pure]
   unfold Oper.wp;rw[hr];refine a0 _ M w ?_ hG (Ext.refl _ _ _);cases I<;>exact h2
  ·cases h
 ·cases h
def K20 {P:Program}{T:TT}(hT:TOk P T)(hG:Z3 M w){e ty:Nat}{it ie:TI}(ht:Z1 T t=some it)(hu:it.u = .sl e)(he:Z1 T e=some ie){B:List D}{d:List Row}{v u:Value}
  (hv:M5 M G w (.vec e ie.size B) v) (hl:B.length=n*ie.size) (d5:Src M w ie.size d u) (hn:∀r∈d,r.length=ie.size) (c9:0<d.length) (hb:(n+d.length)*(ie.bytes+1)<=140737488355328) :
  ∃a l c w',(Builtin.append_ #[t,t] ty #[v,u]).run P w = .ok (.slice a l c) w'/\(∀G,M5 M G w' (.vec e ie.size (B++d.flatten)) (.slice a l c))/\Z3 M w'/\
   Ext (λb=>blk (.vec e ie.size B) v b) M w M w'/\∀b,blk (.vec e ie.size (B++d.flatten)) (.slice a l c) b->blk (.vec e ie.size B) v b\/w.heap.size<=b:=by
 have fe:=hT.facts he;have hd:=A7 (hT.facts ht) hu;obtain⟨V,hi,b0,e2,z,hz,e4,_,_⟩:=fe.info;have b2:=fe.pos;have d8:z.cells.size=ie.size:=by have:=fe.len;simp only[Array.length_toList]at e4;omega
 obtain⟨I,d6,d0⟩:=d5;rcases d0 with⟨_,rfl⟩|⟨na,a5,rfl,a4⟩
 ·simp at c9
 generalize hszv:ie.size=sz at *;have a7:n+d.length<=maxLen:=by
  have:(n+d.length)*(ie.bytes+1)=(n+d.length)*ie.bytes+(n+d.length):=Nat.mul_succ _ _;unfold maxLen;omega
 have Y:(n+d.length)*V.bytes<=140737488355328:=by
  rw[e2];exact Nat.le_trans (Nat.mul_le_mul_left _ (Nat.le_succ _)) hb
 have b3:d.flatten.length=d.length*sz:=Rr hn;have b6:(R3 sz d.length I).length=d.length*V.size:=by rw[G7,b0]
 have J:∀(j:Nat) u,(R3 sz d.length I)[j]?=some u->w.cell? (na.add j)=some u:=λj u hu=>(a4 j u hu).1;have c6:∀u∈R3 sz d.length I,u.oneCell'=true:=λu a8=>by
  obtain⟨j,hj⟩:=List.getElem?_of_mem a8;exact(a4 j u hj).2
 have d1:∀n,(Builtin.zeroCells z.cells n).size=n*sz:=λn=>by rw[size_zeroCells,d8]
 have b7:∀(q:Nat) x,d.flatten[q]?=some x->∃y,(R3 sz d.length I)[q]?=some y/\F2 M x y:=λq x hq=>by
  obtain⟨i1,j1,r1,rfl,q2,q3,q4⟩:=J11 hn hq;exact⟨_,Sx q2 (List.getElem?_eq_some_iff.1 q3).1,d6 i1 j1 r1 x q3 q4⟩
 have a2:∀(a0:List Value) (O:Nat),a0.length=n*sz->(∀(q:Nat) x y,B[q]?=some x->a0[q]?=some y->F2 M x y)->n+d.length<=O->O<=maxLen->
   let w':=w.drew.alloc (.cells (a0.toArray++(R3 sz d.length I).toArray++Builtin.zeroCells z.cells (O-(n+d.length))) e)
   (∀G,M5 M G w' (.vec e sz (B++d.flatten)) (.slice (some ⟨w.heap.size,0,none⟩) (n+d.length) O))/\Z3 M w'/\
   Ext (λb=>blk (.vec e sz B) v b) M w M w'/\∀b,blk (.vec e sz (B++d.flatten)) (.slice (some ⟨w.heap.size,0,none⟩) (n+d.length) O) b->blk (.vec e sz B) v b\/w.heap.size<=b:=by
  intro a0 O a9 c7 d4 c0 w';have a1:w'.heap[w.heap.size]?=some (.cells (a0.toArray++(R3 sz d.length I).toArray++Builtin.zeroCells z.cells (O-(n+d.length))) e (0,0)):=heap_alloc_new w.drew _;have b5:∀b,b<w.heap.size->w'.heap[b]?=w.heap[b]?:=λb hb=>W1r hb;have b1:w.heap.size<=w'.heap.size:=by simp[w']
  refine⟨λG=>.inr (.inr ⟨w.heap.size,n+d.length,O,rfl,?_,d4,by omega,c0,⟨_,a1,?_,λq x y X Z=>?_⟩,λe5 sp=>?_⟩),λad x X=>?_,⟨λ_ _ h=>h,b1,rfl,rfl,rfl,λb c3 _=>b5 b c3,λ_ _ h=>.inl h⟩,λb c3=>.inr ?_⟩
  ·rw[List.length_append,hl,b3,Nat.add_mul]
  ·simp only[Array.size_append,List.size_toArray,a9,G7,d1];rw[<-Nat.add_mul,<-Nat.add_mul];exact Nat.mul_le_mul_right _ (by omega)
  ·rcases Nat.lt_or_ge q B.length with h|h
   ·rw[List.getElem?_append_left h]at X;rw[Array.getElem?_append_left (by simp[a9,G7];omega),Array.getElem?_append_left (by simp[a9];omega),List.getElem?_toArray]at Z;exact c7 q x y X Z
   ·rw[List.getElem?_append_right h]at X;obtain⟨y',b4,hr⟩:=b7 _ x X;have d3:=(List.getElem?_eq_some_iff.1 X).1;rw[Array.getElem?_append_left (by simp[a9,G7];omega),Array.getElem?_append_right (by simp[a9];omega),List.getElem?_toArray]at Z;simp only[List.size_toArray,a9]at Z;rw[hl]at b4;rw[b4]at Z;cases Z;exact hr
  ·cases hM:M ⟨w.heap.size,e5,sp⟩with
   |none=>rfl
   |some x=>have:=hG.lt hM;simp at this
  ·exact W13 b1 (b5 _ (hG.lt X)) (hG ad x X)
  ·have:=c3.2;simp only at this;omega
 rcases hv with⟨rfl,rfl⟩|⟨a,rfl,rfl⟩|⟨b,m,a6,rfl,d9,d2,h0,c0,c5⟩
 ·have b9:n=0:=by
   rcases Nat.eq_zero_or_pos n with h|h
   ·exact h
   ·have:0<n*sz:=Nat.mul_pos h b2;simp at hl;omega
  subst b9;have U:=run_append_nil (P:=P) w t ty e V z hd hi hz na d.length a5 (R3 sz d.length I) b6 J c9 (by unfold maxLen at a7;omega) (by simp only[Nat.zero_add]at Y;omega);have:=a2 [] (grownCap w d.length 0 e) (by simp) (λq x y h=>by simp at h) (by simpa using grownCap_ge w d.length 0 e) (grownCap_le_maxLen w _ _ e (by simpa using a7));simp only[Nat.zero_add]at this;exact⟨_,_,_,_,U,by simpa using this.1,by simpa using this.2.1,by simpa using this.2.2.1,this.2.2.2⟩
 ·have b9:n=0:=by
   rcases Nat.eq_zero_or_pos n with h|h
   ·exact h
   ·have:0<n*sz:=Nat.mul_pos h b2;simp at hl;omega
  subst b9
  have U:=run_append_grow (P:=P) w t ty e V z hd hi hz a 0 0 [] (by simp) (λj u h=>by simp at h) na d.length a5 (R3 sz d.length I) b6 J
   (by omega) (by unfold maxLen at a7;omega) (growslice_fits (by omega) Y)
  exact⟨_,_,_,_,U,a2 [] (grownCap w (0+d.length) 0 e) (by simp) (λq x y h=>by simp at h) (grownCap_ge w _ _ e) (grownCap_le_maxLen w _ _ e a7)⟩
 ·have d7:m=n:=by
   have:m*sz=n*sz:=by rw[<-d9,hl]
   exact Nat.eq_of_mul_eq_mul_right b2 this
  subst d7;obtain⟨vs,c1,c2,c4⟩:=c5.ex;have e0:m*sz<=vs.size:=Nat.le_trans (Nat.mul_le_mul_right _ d2) c2;by_cases hroom:m+d.length<=a6
  ·have a3:m*V.size+(R3 sz d.length I).length<=vs.size:=by
    rw[G7,b0,<-Nat.add_mul];exact Nat.le_trans (Nat.mul_le_mul_right _ hroom) c2
   have U:=run_append_room (P:=P) w t ty e V hd hi b m a6 vs c1 na d.length a5 (R3 sz d.length I) b6 J c6 hroom a3;rw[b0]at U
   let cs:List Value:=vs.toList.take (m*sz)++R3 sz d.length I++vs.toList.drop (m*sz+(R3 sz d.length I).length)
   have c8:∀i,cs[i]?=_:=λi=>Fy vs.toList (m*sz) (R3 sz d.length I) i (by rw[b0]at a3;simpa using a3);have e3:cs.length=vs.size:=by
    rw[b0]at a3;simp only[cs,List.length_append,List.length_take,List.length_drop,Array.length_toList];omega
   have a1:(w.setRow b cs.toArray).heap[b]?=some (.cells cs.toArray e (0,0)):=setRow_heap w b vs _ e (0,0) c1;have b8:Ext (λc=>blk (.vec e sz B) (.slice (some ⟨b,0,none⟩) m a6) c) M w M (w.setRow b cs.toArray):=⟨λ_ _ e=>e,by rw[Ni];exact Nat.le_refl _,rfl,rfl,rfl,λc _ hc=>setRow_other w b c _ λe1=>hc ⟨h0,e1.symm⟩,λ_ _ e=>.inl e⟩
   refine⟨_,_,_,_,U,λG=>.inr (.inr ⟨b,m+d.length,a6,rfl,?_,hroom,h0,c0,⟨cs.toArray,a1,by simp[e3];exact c2,λq x y X Z=>?_⟩,c5.free⟩),hG.ext b8 (λad x X hk=>?_),b8,λc hc=>.inl hc⟩
   ·rw[List.length_append,hl,b3,Nat.add_mul]
   ·rw[List.getElem?_toArray,c8 q]at Z;rcases Nat.lt_or_ge q B.length with h|h
    ·rw[List.getElem?_append_left h]at X;rw[if_neg (by omega)]at Z;exact c4 q x y X (by simpa using Z)
    ·rw[List.getElem?_append_right h]at X;obtain⟨y',b4,hr⟩:=b7 _ x X;have d3:=(List.getElem?_eq_some_iff.1 X).1;rw[if_pos (by rw[G7];omega)]at Z;rw[hl]at b4;rw[b4]at Z;cases Z;exact hr
   ·obtain⟨_,hk⟩:=hk;simp only at hk;obtain⟨bb,oo,ss⟩:=ad;simp only at hk;subst hk;rw[c5.free]at X;cases X
  ·have U:=run_append_grow (P:=P) w t ty e V z hd hi hz ⟨b,0,none⟩ m a6 (vs.toList.take (m*sz)) (by rw[b0];simp;omega) (λj u a8=>by
     rw[List.getElem?_take]at a8;split at a8
     ·rw[B5,Ye c1,Nat.zero_add];simpa using a8
     ·cases a8) na d.length a5 (R3 sz d.length I) b6 J
    (by omega) (by unfold maxLen at a7;omega) (growslice_fits (by omega) Y)
   exact⟨_,_,_,_,U,a2 (vs.toList.take (m*sz)) (grownCap w (m+d.length) a6 e) (by simp;omega) (λq x y X Z=>by
    rw[List.getElem?_take]at Z;split at Z
    ·exact c4 q x y X (by simpa using Z)
    ·cases Z) (grownCap_ge w _ _ e) (grownCap_le_maxLen w _ _ e a7)⟩
def P2d (C:Cx)(L:List Oper)(o:Oper)(env:Env)(H:F0):Option (Option Nat×Nat×Nat×Nat×Nat×List D×List Row×F0):=
 match K1 L env o,o.op,O3 o with
 |some true,.call { callee:=.builtin .append,args,argTypes },some d=>
  match args.toList,argTypes.toList with
  |[x,y],[t,t']=>bif Nat.beq t t' then
   (match Z1 C.T t,Mn (ev C.GL env y)with
   |some it,some news=>match it.u with
    |.sl e=>match Z1 C.T e with
     |some ie=>match ev C.GL env x with
      |.vsl p=>match nth H p,dgH [p] H with
       |some (.vec e' sz cells),some H1=>bif Nat.beq e e'&&Nat.beq ie.size sz then some (d,p,e,sz,ie.bytes,cells,news,H1)else none
       |_,_=>none
      |_=>none
     |none=>none
    |_=>none
   |_,_=>none)else none
  |_,_=>none
 |_,_,_=>none
def K0.vc (o n e sz:Nat){F:Fx}{cs a7:List A}{Z:Nat}{H1 H2:F0}(ho:nth H o=some (.row cs Z))(h:nth cs n=some (.full []))(hp:Dp H (.vec e sz [])=some (m,H1))(b7:N10 cs n [.vsl m]=some a7)(hH:Zc H1 o (.row a7 Z)=some H2)
  (k:K0 F L l env H2 Q):K0 F L l env H Q:=by
 intro fr M G w a Qw hK hd hs b5 hq;obtain⟨rfl,rfl⟩:=Nh hp;have e1:=K18 b7;have e2:=Rj hH;subst e1;subst e2;rw[Q2]at ho h;have a9:o<H.length:=(List.getElem?_eq_some_iff.1 ho).1;have T:=hs.hrel;obtain⟨b,vs,g1,g2,g3,g4,g5,g6⟩:=T.obj o _ ho;have c5:n<cs.length:=(List.getElem?_eq_some_iff.1 h).1;have O:vs[n]?=some vs[n]:=Array.getElem?_eq_getElem (by omega);have hr:=g5 n _ _ h O;generalize hv:vs[n]=v at hr O;obtain⟨a0,V,Y,rfl,a3⟩:∃a0 V Y,v = .slice a0 V Y/\∀G,M5 M G w (.vec e sz []) v:=by
  cases hr;rename_i hf I;cases I with
  |slnil=>exact⟨_,_,_,rfl,λG=>.inl ⟨rfl,rfl⟩⟩
  |sl b8 N1 J hc hm c3 B X h2=>
   rename_i a1 c1 b4;have a2:c1=b4:=hf;simp at J;subst J;subst a2;exact⟨_,_,_,rfl,λG=>.inr (.inl ⟨a1,rfl,rfl⟩)⟩
 have b9:∀c,¬blk (.vec e sz []) (.slice a0 V Y) c:=λc hc=>by
  rcases a3 G with⟨X,_⟩|⟨a1,X,_⟩|⟨b1,n1,b0,X,c7,c4,c8,_,d0⟩
  ·rw[X]at hc;simp[blk]at hc
  ·rw[X]at hc;simp[blk]at hc
  ·cases hr;rename_i hf I;rw[X]at hf I;have a2:n1=b0:=hf;cases I with
   |sl b8 N1 J hc hm c3 B c9 c6=>simp at J;omega
 have a6:(H++[Ob.vec e sz []]).length=H.length+1:=by simp
 have a4:o<(H++[Ob.vec e sz []]).length:=by omega
 have D:∀(i:Nat) y,(A5 (H++[Ob.vec e sz []]) o (Ob.row (N8 cs n [.vsl H.length]) Z))[i]?=some y->(i=o/\y=Ob.row (N8 cs n [.vsl H.length]) Z)\/(i=H.length/\y = .vec e sz [])\/(i≠o/\i<H.length/\H[i]?=some y):=λi y d=>by
  rw[C5 _ o _ i a4]at d;by_cases hio:i=o
  ·rw[if_pos hio]at d;cases d;exact .inl ⟨hio,rfl⟩
  ·rw[if_neg hio]at d;rcases Nat.lt_trichotomy i H.length with a5|rfl|hgt
   ·rw[List.getElem?_append_left a5]at d;exact .inr (.inr ⟨hio,a5,d⟩)
   ·simp at d;exact .inr (.inl ⟨rfl,d.symm⟩)
   ·rw[List.getElem?_eq_none (by omega)]at d;cases d
 have hg:∀i,i<H.length->I3 G H.length (.slice a0 V Y) i=G i:=λi hi=>P1 (Nat.ne_of_lt hi);have x:∀(i:Nat) y c,(A5 (H++[Ob.vec e sz []]) o (Ob.row (N8 cs n [.vsl H.length]) Z))[i]?=some y->blk y (I3 G H.length (.slice a0 V Y) i) c->∃y',H[i]?=some y'/\blk y' (G i) c:=λi y c d r=>by
  rcases D i y d with⟨rfl,rfl⟩|⟨rfl,rfl⟩|⟨_,J,h'⟩
  ·rw[hg _ a9]at r;refine⟨_,ho,?_⟩;rw[g1]at r⊢;exact r
  ·rw[C2]at r;exact absurd r (b9 c)
  ·rw[hg i J]at r;exact⟨y,h',r⟩
 have a8:=hs.ghost (M':=M) (G':=I3 G H.length (.slice a0 V Y)) (env':=env) b5 (H':=A5 (H++[Ob.vec e sz []]) o (Ob.row (N8 cs n [.vsl H.length]) Z)) (by rw[H9];omega) (λi z y B d ht=>?_) (λ_ _ h=>h) hs.good (λ_ _ h=>.inl h)
  (λi z B ht=>hg i (List.getElem?_eq_some_iff.1 B).1) (λt v h=>h.upd T) ⟨λi y d=>?_,λi i' y y' c d b6 r c2=>?_,λi hi=>?_⟩ λc hc=>?_
 ·exact k fr M _ w a Qw hK hd a8.1 a8.2 hq
 ·rcases D i y d with⟨rfl,rfl⟩|⟨rfl,rfl⟩|⟨_,_,h'⟩
  ·rfl
  ·rw[List.getElem?_eq_none (Nat.le_refl _)]at B;cases B
  ·rw[B]at h';cases h';exact ht
 ·rcases D i y d with⟨rfl,rfl⟩|⟨rfl,rfl⟩|⟨_,J,h'⟩
  ·rw[hg _ a9];refine⟨b,vs,g1,g2,by rw[Px];exact g3,g4,λj y u d hu=>?_,g6⟩;rw[Dt cs n [.vsl H.length] j (by simp;omega)]at d;split at d
   ·rename_i hj;have:j=n:=by simp at hj;omega
    subst this;simp at d;subst d;rw[O]at hu;cases hu;exact .vsl C2
   ·exact(g5 j y u d hu).upd T
  ·rw[C2];exact a3 _
  ·rw[hg i J];exact(T.obj i y h').upd T
 ·obtain⟨z,B,U⟩:=x i y c d r;obtain⟨z',b3,b2⟩:=x i' y' c b6 c2;exact T.apart i i' z z' c B b3 U b2
 ·rw[H9,a6]at hi;rw[P1 (by omega)];exact T.fresh i (by omega)
 ·obtain⟨i,y,d,r⟩:=hc;obtain⟨z,B,U⟩:=x i y c d r;exact⟨i,z,B,U⟩
def E1t (C:Cx)(L:List Oper)(o:Oper)(env:Env)(H:F0):Option (Option Nat×Nat×Int×Nat×List D):=
 match K1 L env o,o.op,O3 o with
 |some true,.indexAddr t x y,some d=>match Z1 C.T t,ev C.GL env x,ev C.GL env y with
  |some i,.vsl p,.d (.int _ n)=>match i.u,nth H p with
   |.sl e,some (.vec _ sz cells)=>match Z1 C.T e with
    |some j=>bif Nat.beq j.size sz then some (d,p,n,sz,cells)else none
    |none=>none
   |_,_=>none
  |_,_,_=>none
 |_,_,_=>none
def K0.vi {F:Fx}(hC:T1 F.C){n:Int}{c:List D}(h:E1t F.C L o env H=some (d,p,n,sz,c))(Z:c.length=m*sz)(h0:0<=n)(hn:n<m)
  (k:K0 F L l (put env d (.vel p (n.toNat*sz))) H Q):K0 F L (o::l) env H Q:=by
 have hs:K1 L env o=some true/\O3 o=some d/\R4 F.C o env H (.vel p (n.toNat*sz)):=by
  unfold E1t at h;split at h
  ·rename_i t x y dd hw ho hd;split at h
   ·rename_i i q kd n' ht hx hy;split at h
    ·rename_i e e' a4 O hu hq;split at h
     ·rename_i j hj;obtain⟨v,h⟩:=B7 h;have v:=Nat.eq_of_beq_eq_true v;cases h;refine⟨hw,hd,λM G w a a0 Qw T hG a7 hH V=>?_⟩;rw[ho]at T;have z:=T x (by simp[Op.operands]);have u:=T y (by simp[Op.operands]);rw[hx]at z;rw[hy]at u;generalize hyv:a.eval y=yv at u;cases u;rename_i u;cases u;generalize hxv:a.eval x=xv at z;obtain J:G p=xv:=by cases z;assumption
      rw[Q2]at hq;have r:1<=sz:=by rw[<-v];exact(hC.tok.facts hj).pos
      have B:=hH.obj _ _ hq;rw[J]at B;rcases B with⟨_,rfl⟩|⟨a1,_,rfl⟩|⟨b,m',I,rfl,X,a2,a3,a5,a6⟩
      ·have:0<m*sz:=Nat.mul_pos (by omega) r;simp at Z;omega
      ·have:0<m*sz:=Nat.mul_pos (by omega) r;simp at Z;omega
      ·have U:m'=m:=Nat.eq_of_mul_eq_mul_right r (by rw[<-X,Z]);subst U;have Y:=A7 (hC.tok.facts ht) hu;have:(Instr.indexAt t (.slice (some ⟨b,0,none⟩) m' I) (.int kd n)).run F.C.P w = .ok (.pointer (some ⟨b,n.toNat*sz,none⟩)) w:=by
        simp[Instr.indexAt,Mq,run_underlying Y,h0,hn,D9 (hC.tok.facts hj) w,v,B5]
       unfold Oper.wp execOp;simp only[ho,hxv,hyv,Sem.run_bind,this,Result.andThen_ok,Sem.run_pure,Oper.upon_value];exact V _ M w (.vel J) hG (Ext.refl _ _ _)
     ·cases h
    ·cases h
   ·cases h
  ·cases h
 refine .yields hs.1 hs.2.2 ?_;rw[W2 hs.2.1];exact k
def C19:List A->Option (List D)
 |[]=>some []
 |.d x::r=>match C19 r with
  |some ds=>some (x::ds)
  |none=>none
 |_::_=>none
def Q1k:∀{cs:List A} {ds:List D},C19 cs=some ds->cs=ds.map .d
 |[],ds,h=>by simp only[C19,Option.some.injEq]at h;subst h;rfl
 |x::r,ds,h=>by
  cases x<;>simp only[C19]at h<;>first|cases h|skip
  split at h
  ·rename_i c b;simp only[Option.some.injEq]at h;subst h;rw[Q1k b];rfl
  ·cases h
def F1t (C:Cx)(L:List Oper)(o:Oper)(env:Env)(H:F0):Option (Nat×Nat×Nat×Nat×List D×List D):=
 match K1 L env o,o.op,o.dst with
 |some true,.store t x y,none=>match Z1 C.T t,ev C.GL env x,Z9 (ev C.GL env y)with
  |some i,.vel p off,some vs=>match nth H p,C19 vs with
   |some (.vec e sz cells),some xs=>bif Nat.beq xs.length i.size then some (p,off,e,sz,cells,xs)else none
   |_,_=>none
  |_,_,_=>none
 |_,_,_=>none
def K0.vs {F:Fx}(hC:T1 F.C){L l:List Oper}{o:Oper}{env:Env}{H H':F0}{Q:Env->F0->Prop}{p off e sz:Nat}{r xs cs:List D}(h:F1t F.C L o env H=some (p,off,e,sz,r,xs))(u:off+xs.length<=r.length)(h0:0<xs.length)(V:cs=N14 r off xs)
  (hH:Zc H p (.vec e sz cs)=some H') (k:K0 F L l env H' Q):K0 F L (o::l) env H Q:=by
 subst V;obtain rfl:=Rj hH;unfold F1t at h;split at h
 ·rename_i t x y hw ho I;split at h
  ·rename_i i q b6 vs ht hx hy;split at h
   ·rename_i e' c3 b2 c5 hq b3;obtain⟨X,h⟩:=B7 h;have X:=Nat.eq_of_beq_eq_true X;cases h;obtain rfl:=Q1k b3;refine T6 hw λfr M G w a K Qw hK b7 hs b4 hk=>?_;have U:=hs.eval x;rw[hx]at U;generalize hxv:a.eval x=xv at U;obtain⟨b,l0,c0,B,rfl⟩:∃b l0 c0,G p = .slice (some ⟨b,0,none⟩) l0 c0/\xv = .pointer (some ⟨b,off,none⟩):=by cases U;exact⟨_,_,_,by assumption,rfl⟩
    rw[Q2]at hq;have a0:=hs.hrel.obj _ _ hq;rw[B]at a0;rcases a0 with⟨_,rfl⟩|⟨a1,_,rfl⟩|⟨b',m',b8,he,a7,a4,a8,b5,Y⟩
    ·simp only[List.length_nil]at u;omega
    ·simp only[List.length_nil]at u;omega
    ·cases he;obtain⟨T,c1,c2,c4⟩:=Y.ex;obtain⟨a1,a2,a3⟩:=Dy (hs.eval y) hy;simp only[List.length_map]at a1;have b9:r.length<=T.size:=by rw[a7];exact Nat.le_trans (Nat.mul_le_mul_right _ a4) c2
     have a5:(a.eval y).cells.toList.length=xs.length:=by simp[a1]
     have a6:=run_storeCells_at F.C.P b off e (a.eval y).cells.toList 0 T w c1 (by simp only[Array.length_toList,a1];omega) (λv Z=>by
      obtain⟨n,hn⟩:=Array.getElem?_of_mem (Array.mem_toList_iff.1 Z);exact a2 n v hn)
     let cs:List Value:=T.toList.take off++(a.eval y).cells.toList++T.toList.drop (off+(a.eval y).cells.toList.length)
     have b0:∀i,cs[i]?=_:=λi=>Fy T.toList off (a.eval y).cells.toList i (by rw[a5];simp;omega);have V:cs.length=T.size:=by simp only[cs,List.length_append,List.length_take,List.length_drop,Array.length_toList,a1];omega
     have hr:(execOp a.eval o).run F.C.P w = .ok .skip (w.setRow b cs.toArray):=by
      unfold execOp;simp only[ho,hxv,Instr.storeAt,Instr.sureAddr,storeVar,Sem.run_bind,Sem.run_pure,Result.andThen_ok,D9 (hC.tok.facts ht) w];rw[if_neg (by simp[a1,X])];simp only[Nat.add_zero]at a6;simp[a6,cs]
     have J:Ext (λc=>c=b) M w M (w.setRow b cs.toArray):=⟨λ_ _ e=>e,by rw[Ni];exact Nat.le_refl _,rfl,rfl,rfl,λc _ hc=>setRow_other w b c _ hc,λ_ _ e=>.inl e⟩
     have a9:M5 M G (w.setRow b cs.toArray) (.vec e sz (N14 r off xs)) (G p):=by
      rw[B];refine .inr (.inr ⟨b,l0,c0,rfl,by rw[D1t u];exact a7,a4,a8,b5,⟨cs.toArray,setRow_heap w b T _ e (0,0) c1,by simp[V];exact c2,λq z v hz Z=>?_⟩,Y.free⟩);rw[List.getElem?_toArray,b0 q,a5]at Z;rw[D1i u]at hz;split at Z
      ·rename_i hc;rw[if_pos hc]at hz;have:=a3 (q-off) (.d z) v (by rw[List.getElem?_map,hz];rfl) (by simpa using Z);cases this;assumption
      ·rename_i hc;rw[if_neg hc]at hz;exact c4 q z v hz (by simpa using Z)
     have b1:blk (.vec e sz r) (G p) b:=by rw[B];exact⟨a8,rfl⟩
     have O:∀c,blk (.vec e sz (N14 r off xs)) (G p) c->blk (.vec e sz r) (G p) c:=λc hc=>by rw[B]at hc⊢;exact hc
     unfold Oper.wp;rw[hr];have h1:=hs.setOb (dst:=none) (by simp) hq b1 O J (λoff sp=>Y.free off sp) a9 (y:=.junk) (v:=undef) .junk;have h2:=b4.setOb hq b1 O (λh=>by cases h) J;refine hk .junk env _ M G _ undef ?_ ?_ h2
     ·rw[I];exact k
     ·rw[I];exact h1
   ·cases h
  ·cases h
 ·cases h
def G1t (C:Cx)(L:List Oper)(o:Oper)(env:Env)(H:F0):Option (Option Nat×Nat×List D):=
 match K1 L env o,o.op,O3 o with
 |some true,.call { callee:=.builtin .len,args,argTypes },some d=>
  match args.toList,argTypes.toList with
  |[x],[t]=>match Z1 C.T t,ev C.GL env x with
   |some i,.vsl p=>match i.u,nth H p with
    |.sl e,some (.vec _ sz cells)=>match Z1 C.T e with
     |some j=>bif Nat.beq j.size sz then some (d,sz,cells)else none
     |none=>none
    |_,_=>none
   |_,_=>none
  |_,_=>none
 |_,_,_=>none
def S23 {C:Cx}(hC:T1 C){c:List D}(h:G1t C L o env H=some (d,sz,c))(Z:c.length=m*sz):(K1 L env o=some true/\O3 o=some d)/\R4 C o env H (.d (.int .i64 (m:Nat))):=by
 unfold G1t at h;split at h
 ·rename_i u ts dd hw ho hd;split at h
  ·rename_i x t ha U;split at h
   ·rename_i i q ht hx;split at h
    ·rename_i e e' a5 I hu hq;split at h
     ·rename_i j hj;obtain⟨y,h⟩:=B7 h;have y:=Nat.eq_of_beq_eq_true y;cases h;refine⟨⟨hw,hd⟩,λM G w a a2 Qw hρ hG a6 hH T=>?_⟩;obtain rfl:u = #[x]:=by rw[<-Array.toArray_toList (xs:=u),ha]
      obtain rfl:ts = #[t]:=by rw[<-Array.toArray_toList (xs:=ts),U]
      rw[ho]at hρ;have v:=hρ x (by simp[Op.operands,Call.operands]);rw[hx]at v;generalize hxv:a.eval x=xv at v;obtain X:G q=xv:=by cases v;assumption
      rw[Q2]at hq;have r:1<=sz:=by rw[<-y];exact(hC.tok.facts hj).pos
      have Y:=A7 (hC.tok.facts ht) hu;obtain⟨a1,c1,hv,hm⟩:∃a1 c1,xv = .slice a1 m c1/\m<=maxLen:=by
       have z:=hH.obj _ _ hq;rw[X]at z;rcases z with⟨B,rfl⟩|⟨a1,B,rfl⟩|⟨b,m',a3,B,V,J,a4,a0,a7⟩
       ·have:m=0:=by
         rcases Nat.eq_zero_or_pos m with h|h
         ·exact h
         ·have:0<m*sz:=Nat.mul_pos h r;simp at Z;omega
        subst this;exact⟨_,_,B,Nat.zero_le _⟩
       ·have:m=0:=by
         rcases Nat.eq_zero_or_pos m with h|h
         ·exact h
         ·have:0<m*sz:=Nat.mul_pos h r;simp at Z;omega
        subst this;exact⟨_,_,B,Nat.zero_le _⟩
       ·have O:m'=m:=Nat.eq_of_mul_eq_mul_right r (by rw[<-V,Z]);subst O;exact⟨_,_,B,Nat.le_trans J a0⟩
      have hr:(execOp a.eval o).run C.P w = .ok (.value (.int .i64 m)) w:=by
       unfold execOp;simp[ho,resolve,invoke,builtin,hxv,hv,Builtin.len_,run_underlying Y,goInt]
      unfold Oper.wp;rw[hr];exact T _ M w (.d (.int (J10 hm))) hG (Ext.refl _ _ _)
     ·cases h
    ·cases h
   ·cases h
  ·cases h
 ·cases h
def arD (a:List Int):List D:=a.map (D.int .i64)
def arI (l:List (List Int)):List (List D):=l.map arD
def P1x (l:List (List Int)):l.length=(arI l).length:=(List.length_map ..).symm
def Q1x (l:List (List Int))(a:List Int):arI (l++[a])=arI l++[arD a]:=by simp[arI]
def F14 (a:List Int):(arD a).length=a.length:=List.length_map ..
def E1i (a:List Int):(arD a).length=a.length*1:=by rw[F14,Nat.mul_one]
def la (l:List (List Int))(i k:Nat):Option Int:=match l[i]? with
 |some a=>a[k]?
 |none=>none
def R29 {l:List (List Int)}{k:Nat}{x:Int}(h:la l i k=some x):∃ds,(arI l)[i]?=some ds/\ds[k]?=some (.int .i64 x):=by
 unfold la at h;split at h
 ·rename_i a b;exact⟨arD a,by simp[arI,b],by simp[arD,h]⟩
 ·cases h
def R1k (l:List (List Int))(i off n:Nat):Option (List Int):=match l[i]? with
 |some a=>if off+n<=a.length then some ((a.drop off).take n)else none
 |none=>none
def L20 {l:List (List Int)}{x:List Int}(h:R1k l i off n=some x):∃ds,(arI l)[i]?=some ds/\off+n<=ds.length/\arD x=(ds.drop off).take n:=by
 unfold R1k at h;split at h
 ·rename_i a b;split at h
  ·cases h;exact⟨arD a,by simp[arI,b],by rw[F14];assumption,by simp[arD,List.map_drop,List.map_take]⟩
  ·cases h
 ·cases h
def N1r (l:List (List Int))(i off n:Nat)(x:List Int):Option (List (List Int)):=match l[i]? with
 |some a=>if 0<x.length/\x.length<=n/\off+x.length<=a.length then some (l.set i (a.take off++x++a.drop (off+x.length)))else none
 |none=>none
def M20 {l r:List (List Int)}{x:List Int}(h:N1r l i off n x=some r):∃ds,(arI l)[i]?=some ds/\0<x.length/\x.length<=n/\off+x.length<=ds.length/\arI r=(arI l).set i (N14 ds off (arD x)):=by
 unfold N1r at h;split at h
 ·rename_i a b;split at h
  ·rename_i hc;cases h;refine⟨arD a,by simp[arI,b],hc.1,hc.2.1,by rw[F14];exact hc.2.2,?_⟩;simp[arI,List.map_set,N14,arD,List.map_drop,List.map_take]
  ·cases h
 ·cases h
def H1t (x:List Int):((x.map λn=>[D.int .i64 n]):List Row).flatten=arD x:=by
 induction x with
 |nil=>rfl
 |cons a r b=>simp[arD]at b⊢;exact b
section
variable {C:Cx}{F:Fx}{L l:List Oper}{o:Oper}{env:Env}{H:F0}
def K0.la (p:Nat)(hC:T1 F.C){Q:Env->F0->Prop}{d:Option Nat}{γ i k:Nat}{e:TypeId}{ls:List (List Int)}{x:Int}(h:(V1d F.C L o env,nth H p)=(some (d,γ,i,k),some (.slots γ e (arI ls))))(b:la ls i k=some x)(r:K0 F L l (put env d (.d (.int .i64 x))) H Q):K0 F L (o::l) env H Q:=by
 simp only[Prod.mk.injEq]at h;obtain⟨ds,c,u⟩:=R29 b;refine .yields (A1h h.1).1 (P23 hC h.1 h.2 c u) ?_;rw[W2 (A1h h.1).2];exact r
def Q28 {lo b:Int}(h:0<=lo/\lo<b/\b<=(len:Int)):lo=(lo.toNat:Int)/\b=(b.toNat:Int)/\lo.toNat<b.toNat/\b.toNat<=len:=by omega
def K0.dc (hC:T1 F.C){g k:Nat}{lo b:Int}(h:B19 F.C L o env=some (d,(g,k,off,len),lo,b))(hc:0<=lo/\lo<b/\b<=(len:Int))(c:K0 F L l (put env d (.d (.csl g k (off+lo.toNat) (b.toNat-lo.toNat)))) H Q):K0 F L (o::l) env H Q:=by
 obtain⟨x,u,r,v⟩:=Q28 hc;refine .yields (K11 h).1 (N1p hC h x u r v) ?_;rw[W2 (K11 h).2];exact c
def AQ.dc (hC:T1 C){Q:Env->Prop}{g k:Nat}{lo b:Int}(h:B19 C L o env=some (d,(g,k,off,len),lo,b))(hc:0<=lo/\lo<b/\b<=(len:Int))(c:AQ C L l (put env d (.d (.csl g k (off+lo.toNat) (b.toNat-lo.toNat)))) H Q):AQ C L (o::l) env H Q:=by
 obtain⟨x,u,r,v⟩:=Q28 hc;exact .y _ (K11 h).2 (K11 h).1 (N1p hC h x u r v) c
def K0.nn (hC:T1 F.C){neg:Bool}(h:W1d F.C L o env=some (d,rows,neg))(hc:0<rows.length)(b:K0 F L l (put env d (.d (.bool neg))) H Q):K0 F L (o::l) env H Q:=by
 refine .yields (B1h h).1 (R23 hC h hc) ?_;rw[W2 (B1h h).2];exact b
def K0.asx (q:Nat)(hC:T1 F.C){u:Bool}{nn rs:List Row}{b:Nat}{y:Operand}{x:List Int}
  (h:(C1d dgH F.C L o env H,ev F.C.GL env y,nth H q)=(some (⟨d,p,u,rows,nn,1,b,H'⟩,y),.d (.csl γ i off len),some (.slots γ e (arI ls)))) (J:R1k ls i off len=some x) (O:rows.length=m) (I:∀r∈rows,r.length=1) (c:rs=rows++x.map λn=>[D.int .i64 n])
  (v:(m+len)*(b+1)<=140737488355328) (k:K0 F L l (put (bif u then env else λt=>dg [p] (env t)) d (.osl p rs)) H' Q):K0 F L (o::l) env H Q:=by
 subst O;obtain⟨ds,z,B,T⟩:=L20 J;refine .as q hC h z B ?_ I v k;rw[c,<-T,arD,List.map_map];rfl
def K0.cpx (p:Nat)(hC:T1 F.C){c:List (List Int)}{x:List Int}
  (h:(C1t F.C L o env,nth H p)=(some (d,(γ,i,off,len),rows),some (.slots γ e (arI ls)))) (b:rows=x.map λn=>[D.int .i64 n]) (J:N1r ls i off len x=some c) (I:Zc H p (.slots γ e (arI c))=some H') (k:K0 F L l (put env d (.d (.int .i64 (x.length:Nat)))) H' Q):K0 F L (o::l) env H Q:=by
 obtain⟨ds,z,B,O,y,v⟩:=M20 J;refine .cp p hC h z (λr u=>?_) (by rw[b,List.length_map]) B O y ?_ I k
 ·rw[b]at u;obtain⟨_,_,rfl⟩:=List.mem_map.1 u;rfl
 ·rw[v,b,H1t]
def K0.pua (j a:Nat){cs:List A}{x:List Int}(h:(nth H j,nth H a)=(some (.row cs e),some (.slots γ e (arI ls))))(b:cs=x.map λn=>.d (.int .i64 n))(c:M1a H=true)
  (r:R9 (puH (Go.Am.pu j γ ls.length 0) j a (.slots γ e (arI (ls++[x]))) 0 H)=some H') (k:K0 F L l (λt=>Go.Am.pu j γ ls.length 0 (env t)) H' Q):K0 F L l env H Q:=by
 simp only[Prod.mk.injEq]at h;refine .pu j a h.1 (.inr ⟨cs,rfl,?_⟩) h.2 (P1x ls) (Q1x ls x) c r k;rw[b,arD,List.map_map];rfl
def K0.puv (j a:Nat){x:List Int}(h:(nth H j,nth H a)=(some (.vec e 1 (arD x)),some (.slots γ e (arI ls))))(b:0<x.length)(c:M1a H=true)
  (d:R9 (puH (Go.Am.pu j γ ls.length x.length) j a (.slots γ e (arI (ls++[x]))) 0 H)=some H') (k:K0 F L l (λt=>Go.Am.pu j γ ls.length x.length (env t)) H' Q):K0 F L l env H Q:=by
 simp only[Prod.mk.injEq]at h;exact .pu j a h.1 (.inl ⟨1,rfl,rfl,by rw[F14];exact b,(F14 x).symm⟩) h.2 (P1x ls) (Q1x ls x) c d k
def K0.vix (hC:T1 F.C){n:Int}{x:List Int}(h:E1t F.C L o env H=some (d,p,n,1,arD x))(b:0<=n/\n<(x.length:Int))(k:K0 F L l (put env d (.vel p (n.toNat*1))) H Q):K0 F L (o::l) env H Q:=.vi hC h (E1i x) b.1 b.2 k
def K0.vsx (hC:T1 F.C){e:Nat}{y:Int}{x z:List Int}(h:F1t F.C L o env H=some (p,n*1,e,1,arD x,[.int .i64 y]))(c:n<x.length)(b:z=x.set n y)(d:Zc H p (.vec e 1 (arD z))=some H')(k:K0 F L l env H' Q):K0 F L (o::l) env H Q:=by
 refine .vs hC h (by rw[F14];simp;omega) (by simp) ?_ d k;rw[b,arD,List.map_set];refine List.ext_getElem? λi=>?_;rw[D1i (by simp[arD];omega),List.getElem?_set];simp only[List.length_map,List.length_cons,List.length_nil,Nat.mul_one];by_cases h1:n=i
 ·subst h1;rw[if_pos rfl,if_pos c,if_pos ⟨Nat.le_refl _,by omega⟩];simp
 ·rw[if_neg h1,if_neg (by omega)];rfl
def AQ.vlx (hC:T1 C){Q:Env->Prop}{x:List Int}(h:G1t C L o env H=some (d,1,arD x))(k:AQ C L l (put env d (.d (.int .i64 (x.length:Nat)))) H Q):AQ C L (o::l) env H Q:=by
 obtain⟨⟨r,c⟩,b⟩:=S23 hC h (E1i x);exact .y _ c r b k
def K0.mw (hC:T1 F.C){es:List (List UInt8×Row)}{k:List UInt8}(h:L13 F.C L o env H=some ⟨d,es,k,b,z⟩)(e:LeA y (lkA (Ch k es) z b))(c:K0 F L l (put env d y) H Q):K0 F L (o::l) env H Q:=by
 obtain⟨v,u⟩:=Jy h;refine .yields v ((Gw hC h rfl).le λ_ _ _ r=>e.rel r) ?_;rw[W2 u];exact c
def AQ.mi (hC:T1 C){Q:Env->Prop}{es:List (Int×Row)}{k:Int}(h:V18 C L o env H=some ⟨d,es,k,b,z⟩)(e:lkA (Rq k es) z b=y)(c:AQ C L l (put env d y) H Q):AQ C L (o::l) env H Q:=.y _ (H17 h).2 (H17 h).1 (e▸W18 hC h rfl) c
end
section
variable {α:Type}{Φ:Fp α}[hc:Nonempty (T1 Φ.C)]{k k':Kt}{p q:Option α}{m m':Md}{e e':Env}{h h':F0}{w:List Bool}
def khs {δ:Type}{x:Option β}{y:Option δ}{f:β->Option α}{O:δ->Option α}{bad:β->Bool}(c:List Nat){D:List A}{V:β->F0}{U:β->A}{B:δ->F0}{z:δ->A}{P:β->A->F0->Prop}{X:δ->A->F0->Prop}{tk:List Nat}
  (Y:SP Φ.C g D cH x P) (I:SP Φ.C g D cH y X)
  (T:(P,X,rn Φ.C Φ.N 9999 m k e h,opO m',Ad Φ.C L op e',S12 (Hb (K3 c h'.length) D) xs,Ep c h'.length,Yr h' c,S4 c cH)=((λb=>Ret (V b) (U b)),(λb=>Ret (B b) (z b)),some (m',k',e',h',w,w),some (L,op,l),some (d,g,xs),Hb (K3 c h'.length) D,true,Yw (K3 c h'.length) cH,tk))
  (K:∀b,XR Φ k' (f b) (.w d (ren (K3 c h'.length) (U b)) (.o L l)) (dgE tk e') (Aa h' c (K3 c h'.length) tk (V b)))
  (K2:∀b,XR Φ k' (O b) (.w d (ren (K3 c h'.length) (z b)) (.o L l)) (dgE tk e') (Aa h' c (K3 c h'.length) tk (B b))):XR Φ k (x>>=λb=>if bad b=true then f b else y>>=O) m e h:=λr hp=>by
 simp only[Prod.mk.injEq]at T;obtain⟨rP,J,v⟩:=T;obtain⟨b,Z,u⟩:=bind_some hp;by_cases hbad:bad b=true
 ·rw[if_pos hbad]at u;exact kh (x:=x) (f:=f) c Y (by simp only[Prod.mk.injEq];exact⟨rP,v⟩) K r (by rw[Z];exact u)
 ·rw[if_neg hbad]at u;exact kh (x:=y) (f:=O) c I (by simp only[Prod.mk.injEq];exact⟨J,v⟩) K2 r u
end
def St.moveOb {C:Cx}{N:FN}{w':World}{a:Act}(h:St C N M G w env H a){dst:Option Nat}(hd:∀d,dst=some d->d<N){y O:Ob}{v':Value}
  (U:H[p]?=some y) (D:Ext (λb=>blk y (G p) b) M w M w') (hg:Z3 M w') (a0:∀G,M5 M G w' O v') (V:∀b,blk O v' b->blk y (G p) b\/w.heap.size<=b) (hx:A1 M (I3 G H.length v') x v') :
  St C N M (I3 G H.length v') w' (put env dst x) (A5 H p .dead++[O]) (a.put dst v'):=by
 have T:p<H.length:=(List.getElem?_eq_some_iff.1 U).1;have hl:(A5 H p .dead).length=H.length:=H9 _ _ _;obtain⟨h1,h2,h3⟩:=Np (λt=>(h.env t).upd (u:=v') h.hrel) h.size hd hx;have X:∀(o:Nat) x,(A5 H p .dead++[O])[o]?=some x->(o<H.length/\o≠p/\H[o]?=some x)\/(o=p/\x = .dead)\/(o=H.length/\x=O):=λo x r=>by
  rcases Nat.lt_trichotomy o H.length with B|rfl|hgt
  ·rw[List.getElem?_append_left (by omega),C5 _ _ _ _ T]at r;by_cases c:o=p
   ·rw[if_pos c]at r;cases r;exact .inr (.inl ⟨c,rfl⟩)
   ·rw[if_neg c]at r;exact .inl ⟨B,c,r⟩
  ·rw[List.getElem?_append_right (by omega),hl,Nat.sub_self]at r;simp at r;exact .inr (.inr ⟨rfl,r.symm⟩)
  ·rw[List.getElem?_eq_none (by simp;omega)]at r;cases r
 have I:∀(o:Nat) z b,(A5 H p .dead++[O])[o]?=some z->blk z (I3 G H.length v' o) b->(o≠p/\H[o]?=some z/\blk z (G o) b)\/(o=H.length/\(blk y (G p) b\/w.heap.size<=b)):=λo z b hz v=>by
  rcases X o z hz with⟨B,c,Z⟩|⟨_,rfl⟩|⟨rfl,rfl⟩
  ·rw[P1 (Nat.ne_of_lt B)]at v;exact .inl ⟨c,Z,v⟩
  ·simp[blk]at v
  ·rw[C2]at v;exact .inr ⟨rfl,V b v⟩
 refine⟨hg,h.gl.ext h.hrel D (λb v=>⟨p,_,U,v⟩),⟨λo x r=>?_,λo o' z z' b hz a1 v J=>?_,λo r=>?_⟩,h1,h2,h3.trans h.defers⟩
 ·rcases X o x r with⟨B,c,Z⟩|⟨rfl,rfl⟩|⟨rfl,rfl⟩
  ·rw[P1 (Nat.ne_of_lt B)];have Y:=h.hrel.obj o x Z;exact(Y.upd h.hrel).keep (λ_ _ e=>e) D.size (λb v=>D.block b (V7 Y v) λJ=>c (h.hrel.apart o p x _ b Z U v J)) λ_ _ _ _ hn=>hn
  ·trivial
  ·rw[C2];exact a0 _
 ·rcases I o z b hz v with⟨q1,q2,q3⟩|⟨q1,q2⟩<;>rcases I o' z' b a1 J with⟨r1,r2,r3⟩|⟨r1,r2⟩
  ·exact h.hrel.apart o o' z z' b q2 r2 q3 r3
  ·rcases r2 with r2|r2
   ·exact absurd (h.hrel.apart o p z y b q2 U q3 r2) q1
   ·have:=V7 (h.hrel.obj o z q2) q3;omega
  ·rcases q2 with q2|q2
   ·exact absurd (h.hrel.apart o' p z' y b r2 U r3 q2) r1
   ·have:=V7 (h.hrel.obj o' z' r2) r3;omega
  ·rw[q1,r1]
 ·simp[hl]at r;rw[P1 (by omega)];exact h.hrel.fresh o (by omega)
def D2.moveOb {Y:World}(h:D2 fr M G w H){y J:Ob}{v':Value}
  (V:H[p]?=some y) (B:Ext (λb=>blk y (G p) b) M w M Y) (D:∀b,blk J v' b->blk y (G p) b\/w.heap.size<=b):D2 fr M (I3 G H.length v') Y (A5 H p .dead++[J]):=by
 have v:p<H.length:=(List.getElem?_eq_some_iff.1 V).1;have X:(A5 H p .dead).length=H.length:=H9 _ _ _;have I:∀(o:Nat) x,(A5 H p .dead++[J])[o]?=some x->(o<H.length/\o≠p/\H[o]?=some x)\/(o=p/\x = .dead)\/(o=H.length/\x=J):=λo x c=>by
  rcases Nat.lt_trichotomy o H.length with d|rfl|hgt
  ·rw[List.getElem?_append_left (by omega),C5 _ _ _ _ v]at c;by_cases r:o=p
   ·rw[if_pos r]at c;cases c;exact .inr (.inl ⟨r,rfl⟩)
   ·rw[if_neg r]at c;exact .inl ⟨d,r,c⟩
  ·rw[List.getElem?_append_right (by omega),X,Nat.sub_self]at c;simp at c;exact .inr (.inr ⟨rfl,c.symm⟩)
  ·rw[List.getElem?_eq_none (by simp;omega)]at c;cases c
 refine⟨h.ext.trans B λb u=>h.own b ⟨p,_,V,u⟩,λb ⟨o,z,O,u⟩=>?_,by simp[X];have:=h.len;omega,λo x c U=>?_,λo x z c U O=>?_⟩
 ·rcases I o z O with⟨d,r,T⟩|⟨rfl,rfl⟩|⟨rfl,rfl⟩
  ·rw[P1 (Nat.ne_of_lt d)]at u;exact h.own b ⟨o,z,T,u⟩
  ·simp[blk]at u
  ·rw[C2]at u;rcases D b u with q|q
   ·exact h.own b ⟨p,_,V,q⟩
   ·exact .inr (Nat.le_trans h.ext.size q)
 ·have d:o<H.length:=Nat.lt_of_lt_of_le (List.getElem?_eq_some_iff.1 c).1 h.len;rw[P1 (Nat.ne_of_lt d)];exact h.keep o x c U
 ·have d:o<H.length:=Nat.lt_of_lt_of_le (List.getElem?_eq_some_iff.1 c).1 h.len;rcases I o z O with⟨_,_,T⟩|⟨_,rfl⟩|⟨rfl,_⟩
  ·exact h.kind o x z c U T
  ·rfl
  ·omega
structure Av where
 d:Option Nat
 p:Nat
 e:Nat
 sz:Nat
 bytes:Nat
 cells:List D
 news:List Row
def O14 (C:Cx)(L:List Oper)(o:Oper)(env:Env)(H:F0):Option Av:=
 match K1 L env o,o.op,O3 o with
 |some true,.call { callee:=.builtin .append,args,argTypes },some d=>
  match args.toList,argTypes.toList with
  |[x,y],[t,t']=>match Z1 C.T t,Mn (ev C.GL env y),ev C.GL env x with
   |some it,some news,.vsl p=>match it.u,nth H p with
    |.sl e,some (.vec e' sz cells)=>match Z1 C.T e with
     |some ie=>bif Nat.beq t t'&&(Nat.beq e e'&&Nat.beq ie.size sz)then some ⟨d,p,e,sz,ie.bytes,cells,news⟩else none
     |none=>none
    |_,_=>none
   |_,_,_=>none
  |_,_=>none
 |_,_,_=>none
def K17 {C:Cx}{r:Av}(h:O14 C L o env H=some r):K1 L env o=some true/\O3 o=some r.d/\∃x y t args z B c,o.op = .call { callee:=.builtin .append,args:=args,argTypes:=z }/\args.toList=[x,y]/\z.toList=[t,t]/\
  Z1 C.T t=some B/\B.u = .sl r.e/\Z1 C.T r.e=some c/\c.size=r.sz/\c.bytes=r.bytes/\Mn (ev C.GL env y)=some r.news/\ev C.GL env x = .vsl r.p/\H[r.p]?=some (.vec r.e r.sz r.cells):=by
 unfold O14 at h;split at h
 ·rename_i args z dd Z U hd;split at h
  ·rename_i x y t t' ha V;split at h
   ·rename_i B O p I b hx;split at h
    ·rename_i e e' sz D X Y;split at h
     ·rename_i c J;rw[cond_eq_ite]at h;split at h
      ·rename_i v;simp only[Bool.and_eq_true]at v;obtain rfl:=Nat.eq_of_beq_eq_true v.1;obtain rfl:=Nat.eq_of_beq_eq_true v.2.1;cases h;exact⟨Z,hd,x,y,t,args,z,B,c,U,ha,V,I,X,J,Nat.eq_of_beq_eq_true v.2.2,rfl,b,hx,by rw[<-Q2];exact Y⟩
      ·cases h
     ·cases h
    ·cases h
   ·cases h
  ·cases h
 ·cases h
def K0.vm {F:Fx}(hC:T1 F.C){r:Av}(h:O14 F.C L o env H=some r)(hl:r.cells.length=n*r.sz)(Y:∀x∈r.news,x.length=r.sz)(h0:0<r.news.length)(hb:(n+r.news.length)*(r.bytes+1)<=140737488355328)
  (k:K0 F L l (put env r.d (.vsl H.length)) (A5 H r.p .dead++[.vec r.e r.sz (r.cells++r.news.flatten)]) Q):K0 F L (o::l) env H Q:=by
 obtain⟨hw,hd,x,y,t,a0,ts,it,ie,ho,ha,ht,T,hu,X,b,U,c,hx,V⟩:=K17 h;refine T6 hw λfr M G w a K Qw hK D v O hk=>?_;have u:=v.eval x;rw[hx]at u;generalize hxv:a.eval x=xv at u;obtain B:G r.p=xv:=by cases u;assumption
 have z:=v.hrel.obj _ _ V;rw[B,<-b]at z;obtain⟨a',l',c',w',r1,Z,r3,J,I⟩:=K20 (ty:=o.type) hC.tok v.good T hu X z (by rw[b];exact hl) (.data v.good (L9 c (v.eval y)) (by rw[b];exact Y)) (by rw[b];exact Y) h0 (by rw[U];exact hb);unfold Oper.wp;rw[Cn ho ha ht (by rw[hxv];exact r1)];rw[<-B]at J I;rw[b]at Z J I;refine hk (.vsl H.length) env _ M (I3 G H.length (.slice a' l' c')) w' _ ?_ (v.moveOb (A4 D) V J r3 Z I (.vsl C2)) (O.moveOb V J I);rw[W2 hd];exact k
def I1t {C:Cx}{ps:List Nat}{r:Av}(O:∀t∈Gb L o,env' t=env t)(h:O14 C L o env H=some r)(Y:ps.contains r.p=false):O14 C L o env' (J3 ps H)=some r:=by
 have u:∀y∈o.op.operands,ev C.GL env' y=ev C.GL env y:=λy U=>O10 λt B=>O t (by
  subst B;simp only[Gb,List.mem_append,List.mem_filterMap];exact .inl ⟨.tmp t,by simpa using U,rfl⟩)
 obtain⟨Z,hd,x,y,t,c,ts,it,ie,J,T,B,v,V,I,D,z,d,hx,X⟩:=K17 h;have b:x∈o.op.operands/\y∈o.op.operands:=by
  rw[J];obtain rfl:c = #[x,y]:=by rw[<-Array.toArray_toList (xs:=c),T]
  simp[Op.operands,Call.operands]
 have hm:nth (J3 ps H) r.p=some (.vec r.e r.sz r.cells):=by
  rw[Q2,O7,X,Option.map_some,Y];rfl
 unfold O14;rw[Ar O,Z,J,hd];simp only[T,B,u x b.1,u y b.2,v,d,hx,V,hm,I,D,z,Nat.beq_refl,Bool.and_self,cond_true]
section
variable {F:Fx}{L l:List Oper}{o:Oper}{env:Env}{ls:List Nat}{fs:List (Nat×Nat)}{Hs:List F0}{tk:List Nat}{j i:Nat}{Q:Env->Prop}
def AS.vm (hC:T1 F.C){H H':F0}{d:Option Nat}{p q e b:Nat}{x y z:List Int}{c:List Row}(h1:nth ls i=some j)(hf:Jk fs j=none)(h2:nth Hs i=some H)(h3:nth Hs (i+1)=some H')
  (h:O14 F.C L o env H=some ⟨d,p,e,1,b,arD x,c⟩) (T:c=y.map λn=>[D.int .i64 n]) (X:0<y.length/\(x.length+y.length)*(b+1)<=140737488355328) (Z:z=x++y)
  (hH:A5 H p .dead++[.vec e 1 (arD z)]=H') (v:H.length=q) (u:((unw L fs j).all (λp=>Nat.blt p H.length) && !(unw L fs j).contains p)=true) (hy:tk.contains H.length=false) (k:AS F L ls fs Hs tk (j+1) (i+1) l (put env d (.vsl q)) Q):AS F L ls fs Hs tk j i (o::l) env Q:=by
 subst v;subst hH;subst Z;obtain⟨w1,w2,_,_,_,_,_,_,_,_,_,_,_,_,_,_,_,_,_,J⟩:=K17 h;have Y:=W2 w2;simp only[Bool.and_eq_true,List.all_eq_true]at u;refine .inr (.inl ⟨.vsl H.length,H,_,h1,hf,w1,h2,h3,λps I env' K he _ Q v=>?_,by simp only[dg,hy,cond_false],by rw[Y];exact k⟩);have B:ps.contains p=false:=by
  cases hb:ps.contains p with
  |false=>rfl
  |true=>
   have h5:=I p (by simpa using hb);have h6:(unw L fs j).contains p=true:=by simpa using h5
   rw[h6]at u;exact absurd u.2 (by simp)
 have O:p<H.length:=(List.getElem?_eq_some_iff.1 J).1;have hs:=I1t (ps:=ps) he h B;have V:c.length=y.length:=by rw[T,List.length_map]
 refine K0.vm (F:=⟨F.C,F.N,K,Z15,D11⟩) hC hs (E1i x) (λr U=>?_) (by rw[V];exact X.1) (by rw[V];exact X.2) (K0.nil ?_)
 ·simp only[T]at U;obtain⟨_,_,rfl⟩:=List.mem_map.1 U;rfl
 ·rw[I9];rw[Y]at v;simp only;rw[T1d (by rw[H9];exact λq v=>Nat.le_of_ble_eq_true (u.1 q (I q v))),<-S1d O B]at v;rw[T,H1t,show arD x++arD y=arD (x++y)from(List.map_append ..).symm];exact v
end
structure RL where
 (t11 t107 t108 t109 t110 t111 t112 t20 t113 t114 t115 tm tl ty ty':Nat)
def RL.js (k:RL):List Nat:=[k.t107,k.t108,k.t109,k.t110,k.t111,k.t112,k.t20,k.t113,k.t114,k.t115]
def RL.ok (k:RL)(N:Nat):Bool:=k.js.all (λt=>Nat.blt t N)&&I14 k.js && !k.js.contains k.t11
def A1g (k:RL)(env:Env):Env:=λt=>bif k.js.contains t then .junk else env t
def X1d:Row->Nat
 |[.sl rs]=>rs.length
 |_=>0
def J1t (e:MapEntry):Nat:=match e.val with |.slice _ n _=>n|_=>0
def AEx.rgl {F:Fx}(hC:T1 F.C){Q:Po}{i1 i2 i3 i4 b3 b4:Nat}{T:Code}{o1 o2 o3 o4 o5 o6 o7 o8 o9 b8:Oper}(k:RL)
  (b9:[o1,o2,o3,o4,o5,o6,o7,o8,o9,b8].map H1n=[(some k.t107,.move (.tmp k.t11),none),(some k.t108,.range k.tm (.tmp k.t107),none),(some k.t109,.next (.tmp k.t108) false,none),(some k.t110,.extract (.tmp k.t109) 0,none),
   (some k.t111,.entry (.tmp k.t108),none),(some k.t112,.extract (.tmp k.t111) 1,none),(some k.t20,.assign (.tmp k.t112),none),(some k.t113,.move (.tmp k.t20),none),
   (some k.t114,.call { callee:=.builtin .len,args:=#[.tmp k.t113],argTypes:=#[k.tl] },none),(some k.t115,.binOp .gtr k.ty (.tmp k.t114) (.const (.int .i64 0)) k.ty',none)])
  (k8:k.ok F.N.n=true) {il im:TI} {e0 ek ee:Nat} (l8:Z1 F.C.T k.tl=some il) (m9:il.u = .sl e0) (m3:Z1 F.C.T k.tm=some im) (l3:im.u = .map ek ee)
  {kd:IntKind} {J:List (Int×Row)} (hx:env k.t11 = .mp m) (hm:nth H m=some (.map (.i kd J))) (i8:∀p∈J,∃rs,p.2=[.sl rs])
  (kT:(J.any λp=>decide (0<X1d p.2))=true->AEx F T (A1g k env) H (Mr b4 (J1r F (.seq (.region i2 #[o3,o4] false) (.seq (.cond (.tmp k.t110) .skip (.exit b3)) (.block b4 (.seq (.region i3 #[o5,o6,o7] false) (.seq (.region i4 #[o8,o9,b8] false) (.cond (.tmp k.t115) T .skip)))))) (Mr b3 Q))))
  (kN:(J.any λp=>decide (0<X1d p.2))=false->Q .normal (A1g k env) H) :
  AEx F (.seq (.region i1 #[o1,o2] false) (.block b3 (.loop (.seq (.region i2 #[o3,o4] false) (.seq (.cond (.tmp k.t110) .skip (.exit b3)) (.block b4 (.seq (.region i3 #[o5,o6,o7] false) (.seq (.region i4 #[o8,o9,b8] false) (.cond (.tmp k.t115) T .skip))))))))) env H Q:=by
 intro fr M G w a hK hs l7;simp only[List.map_cons,List.map_nil,H1n,List.cons.injEq,Prod.mk.injEq,and_true]at b9;obtain⟨⟨d1,e1,g1⟩,⟨d2,e2,g2⟩,⟨d3,e3,g3⟩,⟨d4,e4,g4⟩,⟨d5,e5,g5⟩,⟨d6,e6,g6⟩,⟨d7,e7,g7⟩,⟨d8,e8,g8⟩,⟨d9,e9,g9⟩,l0,l9,k9⟩:=b9;simp only[RL.ok,Bool.and_eq_true,Bool.not_eq_true']at k8;obtain⟨⟨h7,c9⟩,f2⟩:=k8;have c9:=Pr c9;have h7:∀t∈k.js,t<F.N.n:=λt ht=>by have:=List.all_eq_true.1 h7 t ht;simpa[Nat.blt_eq]using this
 have f2:k.t11∉k.js:=by simpa using f2
 have l5:=A7 (hC.tok.facts l8) m9;have l6:=Nn (hC.tok.facts m3) l3;have m8:H[m]?=some (.map (.i kd J)):=by rw[<-Q2];exact hm
 obtain⟨bm,ms,z,m7,i0,f8,k5,b1,o0⟩:=hs.hrel.obj m _ m8;have h9:bm<w.heap.size:=(Array.getElem?_eq_some_iff.1 i0).1;have f8:ms.size=J.length:=by rw[f8];simp[Kp.list]
 have c6:∀x∈ms.toList,∃i:Nat,ms[i]?=some x:=λx hx=>by
  obtain⟨i,hi⟩:=List.getElem?_of_mem hx;exact⟨i,by rw[<-Array.getElem?_toList];exact hi⟩
 have f0:∀(i:Nat) p e,J[i]?=some p->ms[i]?=some e->∃ad c,e.val = .slice ad (X1d p.2) c/\X1d p.2<=maxLen:=λi p e hp he=>by
  obtain⟨rs,m2⟩:=i8 p (List.mem_of_getElem? hp);have:=(k5 i (.int kd p.1) p.2 e (by simp[Kp.list,hp]) he).2;rw[m2]at this⊢;have h2:A1 M G (.d (.sl rs)) e.val:=this;generalize e.val=v at h2⊢;cases h2;rename_i h2;cases h2 with
  |slnil=>exact⟨_,_,rfl,Nat.zero_le _⟩
  |sl sz N1 hl hc hm _ _ _ _=>subst hl;exact⟨_,_,rfl,Nat.le_trans hc hm⟩
 have c7:∀x∈ms.toList,x.born<z:=λx hx=>by obtain⟨i,hi⟩:=c6 x hx;exact b1.1 i x hi
 have b6:∀x∈ms.toList,∀y∈ms.toList,x.born=y.born->x=y:=λx hx y hy e=>by
  obtain⟨i,hi⟩:=c6 x hx;obtain⟨j,hj⟩:=c6 y hy;have:=b1.2 i j x y hi hj e;subst this;rw[hi]at hj;exact Option.some.inj hj
 have h6:ms.toList.Nodup:=by
  refine List.pairwise_iff_getElem.2 λi j hi hj n9 e=>?_;have h1:ms[i]?=some (ms[i]'(by simpa using hi)):=Array.getElem?_eq_getElem (by simpa using hi);have h2:ms[j]?=some (ms[j]'(by simpa using hj)):=Array.getElem?_eq_getElem (by simpa using hj);have:=b1.2 i j _ _ h1 h2 (congrArg MapEntry.born e);omega
 have j4:∀e∈ms.toList,∃ad c n,e.val = .slice ad n c/\n<=maxLen/\J1t e=n/\(0<n->(J.any λp=>decide (0<X1d p.2))=true):=λe he=>by
  obtain⟨i,hi⟩:=c6 e he;have c8:i<J.length:=by have:=(Array.getElem?_eq_some_iff.1 hi).1;omega
  obtain⟨ad,c,h1,h2⟩:=f0 i _ e (List.getElem?_eq_getElem c8) hi;exact⟨ad,c,_,h1,h2,by unfold J1t;rw[h1],λh=>List.any_eq_true.2 ⟨_,List.getElem_mem c8,by simpa using h⟩⟩
 have k1:(∀e∈ms.toList,J1t e=0)->(J.any λp=>decide (0<X1d p.2))=false:=λh=>by
  rw[List.any_eq_false];intro p hp;obtain⟨i,hi⟩:=List.getElem?_of_mem hp;have c8:i<ms.size:=by have:=(List.getElem?_eq_some_iff.1 hi).1;omega
  have l2:=Array.getElem?_eq_getElem c8;obtain⟨ad,c,h1,h2⟩:=f0 i p _ hi l2;have:=h ms[i] (by simp);unfold J1t at this;rw[h1]at this;simp only at this;simp[this]
 let B:Act->World->Prop:=λO D=>O.tmps.size=F.N.n/\O.defers=F.N.d/\(∀t,t∉k.js->O.tmps.getD t undef=a.tmps.getD t undef)/\Ext W5 M w M D
 have Bput:∀{O:Act} {D:World} {d:Nat} (v:Value),d∈k.js->B O D->B (O.put (some d) v) D:=λ{O D d} v hd ⟨h1,h2,h3,h4⟩=>by
  refine⟨S26.trans h1,h2,λt ht=>?_,h4⟩;rw[Pn (λe=>ht (by rw[e];exact hd))];exact h3 t ht
 have Bext:∀{O:Act} {D w'':World},B O D->Ext W5 M w M w''->B O w'':=λ⟨h1,h2,h3,_⟩ h=>⟨h1,h2,h3,h⟩
 have B0:B a w:=⟨hs.size,hs.defers,λ_ _=>rfl,Ext.refl _ _ _⟩
 have a0:∀{t:Nat} {O:Act} {D:World},t∈k.js->B O D->t<O.tmps.size:=by intro t O D ht h;rw[h.1];exact h7 _ ht
 have k3:∀{O:Act} {D:World},B O D->St F.C F.N M G D (A1g k env) H O/\D2 fr M G D H:=λ{O D} hB=>by
  refine⟨⟨hs.good.ext hB.2.2.2 (λ_ _ _ h=>h),hs.gl.ext hs.hrel hB.2.2.2 (λ_ h=>h.elim),hs.hrel.ext hB.2.2.2 (λ_ _ h=>h),λt=>?_,hB.1,hB.2.1⟩,l7.quiet hB.2.2.2⟩;show A1 M G (bif k.js.contains t then .junk else env t) _;cases hc:k.js.contains t with
  |true=>exact .junk
  |false=>
   show A1 M G (env t) _;rw[hB.2.2.1 t (by simpa using hc)];exact hs.env t
 have f4:k.t107∈k.js:=by simp[RL.js]
 have f6:k.t108∈k.js:=by simp[RL.js]
 have b2:k.t109∈k.js:=by simp[RL.js]
 have b5:k.t110∈k.js:=by simp[RL.js]
 have h5:k.t111∈k.js:=by simp[RL.js]
 have f9:k.t112∈k.js:=by simp[RL.js]
 have k6:k.t20∈k.js:=by simp[RL.js]
 have f1:k.t113∈k.js:=by simp[RL.js]
 have f3:k.t114∈k.js:=by simp[RL.js]
 have g0:k.t115∈k.js:=by simp[RL.js]
 simp only[RL.js,List.nodup_cons,List.mem_cons,List.not_mem_nil,or_false,not_or]at c9;obtain⟨n3,Z,n0,n2,n4,n1,n8,n6,n5,-⟩:=c9;refine wp_seq (wp_region_lit (l:=[o1,o2]) ?_);have k0:a.eval (.tmp k.t11) = .map (some bm):=by
  have:=hs.env k.t11;rw[hx]at this;show a.tmps.getD k.t11 undef=_;generalize a.tmps.getD k.t11 undef=v at this⊢;cases this;rename_i h;rw[m7]at h;exact h.symm
 refine R12 g1 (L1x e1) ?_;rw[d1,k0];have B1:=Bput (.map (some bm)) f4 B0;have V1:(a.put (some k.t107) (.map (some bm))).tmps.getD k.t107 undef = .map (some bm):=Yg (a0 f4 B0);generalize a.put (some k.t107) (.map (some bm))=a1 at B1 V1⊢;have d0:(execOp a1.eval o2).run F.C.P w = .ok (.value (.pointer (some ⟨w.heap.size,0,none⟩))) (w.alloc (.mapIter (some bm) z #[] z)):=by
  simp only[execOp,e2];refine I20 ?_;rw[show a1.eval (.tmp k.t107) = .map (some bm)from V1];simp[Instr.range,run_underlying l6,Y18 i0]
 refine R12 g2 d0 ?_;refine wpList_nil ?_;rw[d2];have E2:Ext W5 M w M (w.alloc (.mapIter (some bm) z #[] z)):=Od _ _ _ _;have B2:=Bext (Bput (.pointer (some ⟨w.heap.size,0,none⟩)) f6 B1) E2;have V2:(a1.put (some k.t108) (.pointer (some ⟨w.heap.size,0,none⟩))).tmps.getD k.t108 undef = .pointer (some ⟨w.heap.size,0,none⟩):=Yg (a0 f6 B1);have i7:(w.alloc (.mapIter (some bm) z #[] z)).heap[w.heap.size]?=some (.mapIter (some bm) z #[] z):=heap_alloc_new w _;generalize a1.put (some k.t108) (.pointer (some ⟨w.heap.size,0,none⟩))=a2 at B2 V2⊢;generalize w.alloc (.mapIter (some bm) z #[] z)=w2 at B2 E2 i7⊢;obtain⟨r,hr⟩:∃r,r=w.heap.size:=⟨_,rfl⟩
 rw[<-hr]at V2 i7
 have m0:∀(n:Nat) (I:Array Nat) (c0:Nat) (O:Act) (D:World),B O D->O.tmps.getD k.t108 undef = .pointer (some ⟨r,0,none⟩)->D.heap[r]?=some (.mapIter (some bm) z I c0)->z<=c0->(Om ms.toList I).length=n->
   (∀e∈ms.toList,e∉Om ms.toList I->J1t e=0)->
   Ly F.C.P (.seq (.region i2 #[o3,o4] false) (.seq (.cond (.tmp k.t110) .skip (.exit b3)) (.block b4 (.seq (.region i3 #[o5,o6,o7] false) (.seq (.region i4 #[o8,o9,b8] false) (.cond (.tmp k.t115) T .skip)))))) (Fin F fr (Mr b3 Q)) O D:=by
  intro n
  induction n using Nat.strongRecOn with
  |_ n ih=>
  intro I c0 O D hB c5 k7 i5 hn c4;have f7:D.heap[bm]?=some (.map ms z):=by rw[hB.2.2.2.block bm h9 (λh=>h)];exact i0
  have j8:r<D.heap.size:=(Array.getElem?_eq_some_iff.1 k7).1;refine Ly.unroll (wp_seq (wp_region_lit (l:=[o3,o4]) ?_));rcases L29 (P:=F.C.P) o3.type k7 f7 c7 i5 with⟨hl,c3⟩|⟨e,he,nd,c3⟩
  ·have r3:(execOp O.eval o3).run F.C.P D = .ok (.value (.tuple #[.bool false])) D:=by
    simp only[execOp,e3];rw[show O.eval (.tmp k.t108) = .pointer (some ⟨r,0,none⟩)from c5];exact I20 c3
   refine R12 g3 r3 ?_;rw[d3];have Ba:=Bput (.tuple #[.bool false]) b2 hB;have Va:(O.put (some k.t109) (.tuple #[.bool false])).tmps.getD k.t109 undef = .tuple #[.bool false]:=Yg (a0 b2 hB);generalize O.put (some k.t109) (.tuple #[.bool false])=a3 at Ba Va⊢;have r4:(execOp a3.eval o4).run F.C.P D = .ok (.value (.bool false)) D:=by
    simp only[execOp,e4];rw[show a3.eval (.tmp k.t109) = .tuple #[.bool false]from Va];rfl
   refine R12 g4 r4 ?_;rw[d4];have Bb:=Bput (.bool false) b5 Ba;have Vb:(a3.put (some k.t110) (.bool false)).tmps.getD k.t110 undef = .bool false:=Yg (a0 b5 Ba);generalize a3.put (some k.t110) (.bool false)=a4 at Bb Vb⊢;refine wpList_nil ?_;refine wp_seq (wp_cond_false Vb (wp_exit ?_));obtain⟨s1,s2⟩:=k3 Bb;refine .inl ⟨.exit b3,A1g k env,H,M,G,rfl,?_,s1,s2⟩;show(bif Nat.beq b3 b3 then _ else _);rw[show Nat.beq b3 b3=true from Nat.beq_refl b3];exact kN (k1 λe he=>c4 e he (by rw[hl];simp))
  ·have b7:e∈ms.toList:=(List.mem_filter.1 he).1;obtain⟨ad,cp,ln,m5,n7,m6,k4⟩:=j4 e b7;have r3:(execOp O.eval o3).run F.C.P D = .ok (.value (.tuple #[.bool true,e.key,e.val])) { D with heap:=D.heap.setIfInBounds r (.mapIter (some bm) z (I.push e.born) z),drawn:=D.drawn+nd }:=by
    simp only[execOp,e3];rw[show O.eval (.tmp k.t108) = .pointer (some ⟨r,0,none⟩)from c5];exact I20 c3
   refine R12 g3 r3 ?_;rw[d3];have c1:({ D with heap:=D.heap.setIfInBounds r (.mapIter (some bm) z (I.push e.born) z),drawn:=D.drawn+nd }:World).heap[r]?=some (.mapIter (some bm) z (I.push e.born) z):=by simp[j8]
   have c2:∀b,b≠r->({ D with heap:=D.heap.setIfInBounds r (.mapIter (some bm) z (I.push e.born) z),drawn:=D.drawn+nd }:World).heap[b]?=D.heap[b]?:=λb hb=>by
    show(D.heap.setIfInBounds r _)[b]?=_;rw[Array.getElem?_setIfInBounds_ne (λh=>hb h.symm)]
   have E5:Ext W5 M w M { D with heap:=D.heap.setIfInBounds r (.mapIter (some bm) z (I.push e.born) z),drawn:=D.drawn+nd }:=M29 hB.2.2.2 rfl rfl rfl (by simp) λb hb=>c2 b (by omega);have f5:({ D with heap:=D.heap.setIfInBounds r (.mapIter (some bm) z (I.push e.born) z),drawn:=D.drawn+nd }:World).heap[bm]?=some (.map ms z):=by rw[c2 bm (by omega)];exact f7
   have Ba:=Bext (Bput (.tuple #[.bool true,e.key,e.val]) b2 hB) E5;have Va:(O.put (some k.t109) (.tuple #[.bool true,e.key,e.val])).tmps.getD k.t109 undef = .tuple #[.bool true,e.key,e.val]:=Yg (a0 b2 hB);have j2:(O.put (some k.t109) (.tuple #[.bool true,e.key,e.val])).tmps.getD k.t108 undef = .pointer (some ⟨r,0,none⟩):=by rw[Pn Z.1];exact c5
   generalize O.put (some k.t109) (.tuple #[.bool true,e.key,e.val])=a3 at Ba Va j2⊢;generalize({ D with heap:=D.heap.setIfInBounds r (.mapIter (some bm) z (I.push e.born) z),drawn:=D.drawn+nd }:World)=w5 at Ba c1 f5 E5⊢;have r4:(execOp a3.eval o4).run F.C.P w5 = .ok (.value (.bool true)) w5:=by
    simp only[execOp,e4];rw[show a3.eval (.tmp k.t109) = .tuple #[.bool true,e.key,e.val]from Va];rfl
   refine R12 g4 r4 ?_;rw[d4];have Bb:=Bput (.bool true) b5 Ba;have Vb:(a3.put (some k.t110) (.bool true)).tmps.getD k.t110 undef = .bool true:=Yg (a0 b5 Ba);have h8:(a3.put (some k.t110) (.bool true)).tmps.getD k.t108 undef = .pointer (some ⟨r,0,none⟩):=by rw[Pn Z.2.1];exact j2
   generalize a3.put (some k.t110) (.bool true)=a4 at Bb Vb h8⊢;refine wpList_nil ?_;refine wp_seq (wp_cond_true Vb (wp_skip ?_));refine wp_block (wp_seq (wp_region_lit (l:=[o5,o6,o7]) ?_));have r5:(execOp a4.eval o5).run F.C.P w5 = .ok (.value (.tuple #[e.key,e.val])) w5:=by
    simp only[execOp,e5];rw[show a4.eval (.tmp k.t108) = .pointer (some ⟨r,0,none⟩)from h8];exact I20 (R26 c1 f5 b7 λx hx=>b6 x hx e b7)
   refine R12 g5 r5 ?_;rw[d5];have Bc:=Bput (.tuple #[e.key,e.val]) h5 Bb;have Vc:(a4.put (some k.t111) (.tuple #[e.key,e.val])).tmps.getD k.t111 undef = .tuple #[e.key,e.val]:=Yg (a0 h5 Bb);have j6:(a4.put (some k.t111) (.tuple #[e.key,e.val])).tmps.getD k.t108 undef = .pointer (some ⟨r,0,none⟩):=by rw[Pn Z.2.2.1];exact h8
   generalize a4.put (some k.t111) (.tuple #[e.key,e.val])=a5 at Bc Vc j6⊢;have r6:(execOp a5.eval o6).run F.C.P w5 = .ok (.value e.val) w5:=by
    simp only[execOp,e6];rw[show a5.eval (.tmp k.t111) = .tuple #[e.key,e.val]from Vc];rfl
   refine R12 g6 r6 ?_;rw[d6];have Bd:=Bput e.val f9 Bc;have Vd:(a5.put (some k.t112) e.val).tmps.getD k.t112 undef=e.val:=Yg (a0 f9 Bc);have j0:(a5.put (some k.t112) e.val).tmps.getD k.t108 undef = .pointer (some ⟨r,0,none⟩):=by rw[Pn Z.2.2.2.1];exact j6
   generalize a5.put (some k.t112) e.val=a6 at Bd Vd j0⊢;refine R12 g7 (G23 e7) ?_;rw[d7,show a6.eval (.tmp k.t112)=e.val from Vd];have Be:=Bput e.val k6 Bd;have Ve:(a6.put (some k.t20) e.val).tmps.getD k.t20 undef=e.val:=Yg (a0 k6 Bd);have j5:(a6.put (some k.t20) e.val).tmps.getD k.t108 undef = .pointer (some ⟨r,0,none⟩):=by rw[Pn Z.2.2.2.2.1];exact j0
   generalize a6.put (some k.t20) e.val=a7 at Be Ve j5⊢;refine wpList_nil ?_;refine wp_seq (wp_region_lit (l:=[o8,o9,b8]) ?_);refine R12 g8 (L1x e8) ?_;rw[d8,show a7.eval (.tmp k.t20)=e.val from Ve];have Bf:=Bput e.val f1 Be;have Vf:(a7.put (some k.t113) e.val).tmps.getD k.t113 undef=e.val:=Yg (a0 f1 Be);have j3:(a7.put (some k.t113) e.val).tmps.getD k.t108 undef = .pointer (some ⟨r,0,none⟩):=by rw[Pn Z.2.2.2.2.2.1];exact j5
   generalize a7.put (some k.t113) e.val=a8 at Bf Vf j3⊢;have r9:(execOp a8.eval o9).run F.C.P w5 = .ok (.value (.int .i64 ln)) w5:=by
    have U:a8.eval (.tmp k.t113) = .slice ad ln cp:=by rw[<-m5];exact Vf
    unfold execOp;simp[e9,resolve,invoke,builtin,U,Builtin.len_,run_underlying l5,goInt]
   refine R12 g9 r9 ?_;rw[d9];have Bg:=Bput (.int .i64 ln) f3 Bf;have Vg:(a8.put (some k.t114) (.int .i64 ln)).tmps.getD k.t114 undef = .int .i64 ln:=Yg (a0 f3 Bf);have i9:(a8.put (some k.t114) (.int .i64 ln)).tmps.getD k.t108 undef = .pointer (some ⟨r,0,none⟩):=by rw[Pn Z.2.2.2.2.2.2.1];exact j3
   generalize a8.put (some k.t114) (.int .i64 ln)=a9 at Bg Vg i9⊢;have l1:(execOp a9.eval b8).run F.C.P w5 = .ok (.value (.bool (decide ((ln:Int)>0)))) w5:=by
    have U:a9.eval (.tmp k.t114) = .int .i64 ln:=Vg;have hg:=G13 (P:=F.C.P) (w:=w5) (op:=.gtr) (t:=k.ty) (X:=.tmp k.t114) (Y:=.const (.int .i64 0)) (a:=.int .i64 ln) (b:=.int .i64 0) (by simp) (by simp);unfold execOp;have l4:a9.eval (.const (.int .i64 0)) = .int .i64 0:=rfl;simp only[l9,U,l4,Sem.run_bind,hg,Result.andThen_ok];simp[binOp,Op.intCmp]
   refine R12 k9 l1 ?_;rw[l0];have Bh:=Bput (.bool (decide ((ln:Int)>0))) g0 Bg;have Vh:(a9.put (some k.t115) (.bool (decide ((ln:Int)>0)))).tmps.getD k.t115 undef = .bool (decide ((ln:Int)>0)):=Yg (a0 g0 Bg);have j7:(a9.put (some k.t115) (.bool (decide ((ln:Int)>0)))).tmps.getD k.t108 undef = .pointer (some ⟨r,0,none⟩):=by rw[Pn Z.2.2.2.2.2.2.2];exact i9
   generalize a9.put (some k.t115) (.bool (decide ((ln:Int)>0)))=a10 at Bh Vh j7⊢;refine wpList_nil ?_;by_cases h0:0<ln
   ·have i6:decide ((ln:Int)>0)=true:=by simp;exact h0
    rw[i6]at Vh;refine wp_cond_true Vh ?_;obtain⟨s1,s2⟩:=k3 Bh;refine wp_mono (kT (k4 h0) fr M G w5 a10 hK s1 s2) λex ax wx hx=>?_;rcases hx with⟨x,env',H',M',G',rfl,U,b0,V⟩|⟨v,env',H',M',G',rfl,U⟩|⟨rfl|⟨ch,rfl⟩,U⟩
    ·cases x with
     |normal=>exact U fr M' G' wx ax hK b0 V
     |exit i=>
      simp only[Mr]at U;simp only[Ex.to,Exit.inBlock];cases hb:Nat.beq i b4 with
      |true=>
       rw[hb]at U;rw[if_pos (Nat.eq_of_beq_eq_true hb)];exact U fr M' G' wx ax hK b0 V
      |false=>
       rw[hb]at U;rw[if_neg (λe=>by subst e;simp at hb)];exact .inl ⟨.exit i,_,_,_,_,rfl,U,b0,V⟩
     |ret=>exact .inl ⟨.ret,_,_,_,_,rfl,U,b0,V⟩
    ·exact .inr (.inl ⟨v,_,_,_,_,rfl,U⟩)
    ·exact .inr (.inr ⟨.inl rfl,U⟩)
    ·exact .inr (.inr ⟨.inr ⟨_,rfl⟩,U⟩)
   ·have i6:decide ((ln:Int)>0)=false:=by simp;omega
    rw[i6]at Vh;refine wp_cond_false Vh (wp_skip ?_);have j9:=F23 he (λx hx=>b6 x hx e b7) h6;have j1:(Om ms.toList (I.push e.born)).length<n:=by
     have:=j9.length_eq;simp only[List.length_cons]at this;omega
    refine ih _ j1 (I.push e.born) z a10 w5 Bh j7 c1 (Nat.le_refl _) rfl λx hx m1=>?_;by_cases hxe:x∈Om ms.toList I
    ·have:=j9.mem_iff.1 hxe;rcases List.mem_cons.1 this with h|h
     ·subst h;rw[m6];omega
     ·exact absurd h m1
    ·exact c4 x hx hxe
 have h0:=m0 _ #[] z a2 w2 B2 V2 i7 (Nat.le_refl _) rfl λe he m4=>
  absurd (by rw[show Om ms.toList #[]=ms.toList from List.filter_eq_self.2 λ_ _=>by simp];exact he) m4
 refine wp_block (wp_mono h0.loop λex ax wx hx=>?_)
 ·rcases hx with⟨x,env',H',M',G',rfl,U,b0,V⟩|⟨v,env',H',M',G',rfl,U⟩|⟨rfl|⟨ch,rfl⟩,U⟩
  ·cases x with
   |normal=>exact .inl ⟨.normal,_,_,_,_,rfl,U,b0,V⟩
   |exit i=>
    simp only[Mr]at U;simp only[Ex.to,Exit.inBlock];cases hb:Nat.beq i b3 with
    |true=>
     rw[hb]at U;rw[if_pos (Nat.eq_of_beq_eq_true hb)];exact .inl ⟨.normal,_,_,_,_,rfl,U,b0,V⟩
    |false=>
     rw[hb]at U;rw[if_neg (λe=>by subst e;simp at hb)];exact .inl ⟨.exit i,_,_,_,_,rfl,U,b0,V⟩
   |ret=>exact .inl ⟨.ret,_,_,_,_,rfl,U,b0,V⟩
  ·exact .inr (.inl ⟨v,_,_,_,_,rfl,U⟩)
  ·exact .inr (.inr ⟨.inl rfl,U⟩)
  ·exact .inr (.inr ⟨.inr ⟨_,rfl⟩,U⟩)
def K1t (m:List (Int×List β)):Bool:=m.any λp=>decide (0<p.2.length)
def O1p [Rw β](m:List (Int×List β)):((entsI (λx:List β=>[D.sl (Rw.rows x)]) m).any λp=>decide (0<X1d p.2))=K1t m:=by
 unfold entsI K1t;rw[List.any_map];congr 1;funext p;simp[X1d,Rw.length]
section
variable {α:Type}{Φ:Fp α}[hc:Nonempty (T1 Φ.C)]{k k':Kt}{p q:Option α}{m:Md}{e e':Env}{h h':F0}{w:List Bool}
def rg [Rw β](n:Nat)(b:RL)(l:List (Int×List β)){i1 i2 i3 i4 b3 V:Nat}{T:Code}{o1 o2 B Y I U O J Z v:Oper}{il im:TI}{e0 ek ee mm:Nat}{kd:IntKind}
 (hr:rn Φ.C Φ.N n m k e h=some (.c (.seq (.region i1 #[o1,o2] false) (.block b3 (.loop (.seq (.region i2 #[B,Y] false) (.seq (.cond (.tmp b.t110) .skip (.exit b3)) (.block V (.seq (.region i3 #[I,U,O] false) (.seq (.region i4 #[J,Z,v] false) (.cond (.tmp b.t115) T .skip))))))))),k',e',h',w,w))
 (d:[o1,o2,B,Y,I,U,O,J,Z,v].map H1n=[(some b.t107,.move (.tmp b.t11),none),(some b.t108,.range b.tm (.tmp b.t107),none),(some b.t109,.next (.tmp b.t108) false,none),(some b.t110,.extract (.tmp b.t109) 0,none),
   (some b.t111,.entry (.tmp b.t108),none),(some b.t112,.extract (.tmp b.t111) 1,none),(some b.t20,.assign (.tmp b.t112),none),(some b.t113,.move (.tmp b.t20),none),
   (some b.t114,.call { callee:=.builtin .len,args:=#[.tmp b.t113],argTypes:=#[b.tl] },none),(some b.t115,.binOp .gtr b.ty (.tmp b.t114) (.const (.int .i64 0)) b.ty',none)])
 (hf:(b.ok Φ.N.n,Z1 Φ.C.T b.tl,Z1 Φ.C.T b.tm,il.u,im.u,e' b.t11,nth h' mm)=(true,some il,some im,.sl e0,.map ek ee,.mp mm,some (.map (.i kd (entsI (λx:List β=>[D.sl (Rw.rows x)]) l)))))
 (KT:XR Φ (.bl V (.ag (.seq (.region i2 #[B,Y] false) (.seq (.cond (.tmp b.t110) .skip (.exit b3)) (.block V (.seq (.region i3 #[I,U,O] false) (.seq (.region i4 #[J,Z,v] false) (.cond (.tmp b.t115) T .skip)))))) (.bl b3 k'))) p (.c T) (A1g b e') h')
 (KN:XR Φ k' q (.x .normal) (A1g b e') h'):XR Φ k (if K1t l=true then p else q) m e h:=λr z=>by
 simp only[Prod.mk.injEq]at hf;obtain⟨h1,h2,h3,h4,h5,h6,h7⟩:=hf;refine X.of hr ?_;refine AEx.rgl (F:=Φ.F r) (okC (C:=Φ.C)) b d h1 h2 h4 h3 h5 h6 h7 (λp z=>?_) (λy=>?_) (λy=>?_)
 ·obtain⟨q,-,rfl⟩:=List.mem_map.1 z;exact⟨_,rfl⟩
 ·rw[O1p]at y;exact KT r (P10 y z)
 ·rw[O1p]at y;exact KN r (L26 (by simp[y]) z)
end
def O1r:Ob->Ob
 |.tok e sz=>.rok e sz
 |x=>x
def Z11 (os:List Nat):Nat->F0->F0
 |_,[]=>[]
 |n,x::r=>(bif os.contains n then O1r x else x)::Z11 os (n+1) r
def Ls (os:List Nat)(H:F0):F0:=Z11 os 0 H
def S1k {b:List Nat}:∀{H:F0} {k n:Nat},(Z11 b k H)[n]?=(H[n]?).map λx=>bif b.contains (k+n)then O1r x else x
 |[],k,n=>by simp[Z11]
 |x::r,k,0=>by simp[Z11]
 |x::r,k,n+1=>by
  simp only[Z11,List.getElem?_cons_succ];rw[S1k,show k+1+n=k+(n+1) by omega]
def N1a {b:List Nat}:(Ls b H)[n]?=(H[n]?).map λx=>bif b.contains n then O1r x else x:=by
 unfold Ls;rw[S1k,Nat.zero_add]
def Ph {c:List Nat}:(Ls c H).length=H.length:=by
 have b:∀(H:F0) (k:Nat),(Z11 c k H).length=H.length:=by
  intro H
  induction H with
  |nil=>intro k;rfl
  |cons x r d=>intro k;simp only[Z11,List.length_cons,d]
 exact b H 0
def N20:Ob->Ob->Ob
 |.tok _ _,.rok e sz=>.tok e sz
 |_,y=>y
def Sq:F0->F0->F0
 |x::H,y::H'=>N20 x y::Sq H H'
 |_,H'=>H'
def F1i:∀{H H':F0},(Sq H H').length=H'.length
 |[],H'=>by cases H'<;>rfl
 |x::H,[]=>rfl
 |x::H,y::H'=>by simp only[Sq,List.length_cons,F1i (H:=H)]
def P14:∀{H H':F0} {n:Nat},(Sq H H')[n]?=(H'[n]?).map λy=>match H[n]? with|some x=>N20 x y|none=>y
 |[],H',n=>by
  have:Sq [] H'=H':=by cases H'<;>rfl
  rw[this];simp
 |x::H,[],n=>by simp[Sq]
 |x::H,y::H',0=>by simp[Sq]
 |x::H,y::H',n+1=>by simp only[Sq,List.getElem?_cons_succ,P14 (H:=H)]
def Ax (x y:Ob):Prop:=(∀M G w g,M5 M G w x g->M5 M G w y g)/\(∀g b,blk y g b->blk x g b)
def Ax.rfl' {x:Ob}:Ax x x:=⟨λ_ _ _ _ h=>h,λ_ _ h=>h⟩
def S29 {e:Nat}:Ax (.tok e sz) (.rok e sz):=⟨λ_ _ _ _ h=>h,λg b h=>by
 cases g<;>try exact h
 rename_i a _ _;cases a<;>exact h⟩
def T29 {e:Nat}:Ax (.rok e sz) (.tok e sz):=⟨λ_ _ _ _ h=>h,λg b h=>by
 cases g<;>try exact h
 rename_i a _ _;cases a<;>exact h⟩
def T23 {x:Ob}:Ax x (O1r x):=by cases x<;>first|exact Ax.rfl'|exact S29
def U23 {x y:Ob}:Ax y (N20 x y):=by cases x<;>cases y<;>first|exact Ax.rfl'|exact T29
def Z6.same (h:Z6 M G w H)(T:H'.length=H.length)(u:∀(n:Nat) y,H'[n]?=some y->∃x,H[n]?=some x/\Ax x y):Z6 M G w H':=by
 refine⟨λo y c=>?_,λo o' y J b c v O d=>?_,λo c=>h.fresh o (by omega)⟩
 ·obtain⟨x,B,z⟩:=u o y c;exact z.1 _ _ _ _ (h.obj o x B)
 ·obtain⟨x,B,z⟩:=u o y c;obtain⟨I,r,D⟩:=u o' J v;exact h.apart o o' x I b B r (z.2 _ _ O) (D.2 _ _ d)
def P1p {b:List Nat}(n:Nat)(y:Ob)(h:(Ls b H)[n]?=some y):∃x,H[n]?=some x/\Ax x y:=by
 rw[N1a]at h;cases hx:H[n]? with
 |none=>rw[hx]at h;cases h
 |some x=>
  rw[hx]at h;simp only[Option.map_some,Option.some.injEq]at h;refine⟨x,rfl,?_⟩;rw[<-h];cases b.contains n
  ·exact Ax.rfl'
  ·exact T23
def Q1p (n:Nat)(y:Ob)(h:(Sq H H')[n]?=some y):∃x,H'[n]?=some x/\Ax x y:=by
 rw[P14]at h;cases hx:H'[n]? with
 |none=>rw[hx]at h;cases h
 |some x=>
  rw[hx]at h;simp only[Option.map_some,Option.some.injEq]at h;refine⟨x,rfl,?_⟩;rw[<-h];cases H[n]? with
  |none=>exact Ax.rfl'
  |some z=>exact U23
def St.same {C:Cx}{N:FN}{M:Mem}{G:Nat->Value}{w:World}{env:Env}{H H':F0}{a:Act}(h:St C N M G w env H a)(b:H'.length=H.length)(c:∀(n:Nat) y,H'[n]?=some y->∃x,H[n]?=some x/\Ax x y):St C N M G w env H' a:=
 ⟨h.good,h.gl,h.hrel.same b c,h.env,h.size,h.defers⟩
def D2.same (h:D2 fr M G w H)(z:H'.length=H.length)(v:∀(n:Nat) y,H'[n]?=some y->∃x,H[n]?=some x/\Ax x y)(r:∀(o:Nat) x y,fr.H0[o]?=some x->isTok x=false->H'[o]?=some y->isTok y=false):D2 fr M G w H':=by
 refine⟨h.ext,λb D=>?_,by rw[z];exact h.len,h.keep,r⟩;obtain⟨o,y,d,c⟩:=D;obtain⟨x,u,B⟩:=v o y d;exact h.own b ⟨o,x,u,B.2 _ _ c⟩
def K0.lend {F:Fx}(T:List Nat)
  (h:K0 ⟨F.C,F.N,H.length,Z15,D11⟩ L [o] env (Ls T H) (λe h=>K0 F L l e (Sq H h) Q)):K0 F L (o::l) env H Q:=by
 intro Z M G w a U hK hd hs v hq
 let Qw':Exit->Act->World->Prop:=λe a w=>match e with
  |.normal=>wpList F.C.P L.toArray U l a w
  |e=>U e a w
 have I:D2 Z M G w (Ls T H):=v.same Ph P1p λo x y B O b=>by
  rw[N1a]at b;cases hx:H[o]? with
  |none=>rw[hx]at b;cases b
  |some z=>
   rw[hx]at b;simp only[Option.map_some,Option.some.injEq]at b;have D:=v.kind o x z B O hx;rw[<-b];cases T.contains o
   ·exact D
   ·cases z<;>first|exact D|rfl
 have:=h ⟨Ls T H,G,M,w⟩ M G w a Qw' Ph (λo' J=>by
  rw[List.mem_singleton]at J;subst J;exact hd _ List.mem_cons_self) (hs.same Ph P1p) .refl ⟨λenv' H' M' G' w' a' hk Y d=>by
   refine hk Z M' G' w' a' U hK (λo B=>hd o (List.mem_cons_of_mem _ B)) (Y.same F1i Q1p) ((I.step d).same F1i Q1p λo x y B O b=>?_) hq;rw[P14]at b;cases hx:H'[o]? with
   |none=>rw[hx]at b;cases b
   |some z=>
    rw[hx]at b;simp only[Option.map_some,Option.some.injEq]at b;have D:=(I.step d).kind o x z B O hx;rw[<-b];cases hH:H[o]? with
    |none=>exact D
    |some u=>
     have hu:=v.kind o x u B O hH;cases u<;>first|(cases hu;done)|exact D,λ_ _ _ _ _ _ _ h=>h.elim⟩
 simp only[wpList]at this⊢;have r:LetsOut Qw'->LetsOut U:=λ⟨a,w,h⟩=>⟨a,w,h⟩
 split
 ·rename_i X;rw[if_pos X]at this;rcases this with V|⟨V,h2⟩
  ·exact .inl (W1o (λc a w h=>h) r V)
  ·exact .inr ⟨V,r h2⟩
 ·rename_i X;rw[if_neg X]at this;exact this
def Qp.lend {F:Fx}{L:List Oper}{o:Oper}{env:Env}{tk:List Nat}{H c:F0}{x:A}(b:List Nat)(h:Qp F L o env tk (Ls b H) x c):Qp F L o env tk H x (Sq H c):=
 λenv' _ d hc _ r=>K0.lend b (h env' _ d hc _ (K0.nil r))
def V23 {ps b:List Nat}:Ls b (J3 ps H)=J3 ps (Ls b H):=by
 apply List.ext_getElem?;intro n;rw[N1a,O7,O7,N1a];cases H[n]? with
 |none=>rfl
 |some x=>cases hp:ps.contains n<;>cases ho:b.contains n<;>rfl
def W23 {ps:List Nat}{b:F0}:Sq (J3 ps H) (J3 ps b)=J3 ps (Sq H b):=by
 apply List.ext_getElem?;intro n;rw[P14,O7,O7,O7,P14];cases b[n]? with
 |none=>rfl
 |some y=>
  cases H[n]? with
  |none=>rfl
  |some x=>
   simp only[Option.map_some];cases ps.contains n with
   |true=>cases x<;>rfl
   |false=>rfl
section
variable {F:Fx}{L l:List Oper}{o:Oper}{env:Env}{ls:List Nat}{fs:List (Nat×Nat)}{Hs:List F0}{tk:List Nat}{j s:Nat}{Q:Env->Prop}
def AS.gl (u idx:List Nat){b:List A}{c:F0}(hc:B4 F.C g b cH (Ret c x))(J:nth ls s=some j)(O:Jk fs j=none)(h2:nth Hs s=some H)(I:nth Hs (s+1)=some H')
  (h:Ad F.C L o env=some (d,g,xs)) (X:Hb (K3 idx H.length) b=xs) (Y:Ep idx H.length=true) (Z:Yr (Ls u H) idx=Yw (K3 idx H.length) cH)
  (B:((S4 idx cH).all λp=>tk.contains p)=true) (D:frc (ren (K3 idx H.length) x)=some y) (U:R9 (Sq H (Aa (Ls u H) idx (K3 idx H.length) (S4 idx cH) c))=some H')
  (r:(idx.all (λp=>!(unw L fs j).contains p)&&(unw L fs j).all (λp=>Nat.blt p H.length)&&Nat.ble idx.length c.length)=true) (z:dg tk y=y) (k:AS F L ls fs Hs tk (j+1) (s+1) l (put env d y) Q):AS F L ls fs Hs tk j s (o::l) env Q:=by
 obtain⟨T,_,q3⟩:=Ze h;have e:=Mg U;subst e;refine .inr (.inl ⟨y,H,_,J,O,T,h2,I,λV v=>?_,z,by rw[q3];exact k⟩);rw[<-W23];refine Qp.lend u ?_;rw[V23];exact Qp.g idx hc h (by rw[Ph];exact X) (by rw[Ph];exact Y) (by rw[Ph];exact Z) B (by rw[Ph];exact D) (by rw[Ph];exact M1d _) (by rw[Ph];exact r) V v
end
section
variable {α:Type}{Φ:Fp α}[hc:Nonempty (T1 Φ.C)]{k k' k2:Kt}{p q:Option α}{m m':Md}{e e':Env}{h h':F0}{w:List Bool}
def khl {x:Option β}{f:β->Option α}(B u:List Nat){y:List A}{J:β->F0}{I:β->A}{P:β->A->F0->Prop}{tk:List Nat}(O:SP Φ.C g y cH x P)
  (D:(P,rn Φ.C Φ.N 9999 m k e h,opO m',Ad Φ.C L op e',S12 (Hb (K3 u h'.length) y) xs,Ep u h'.length,Yr (Ls B h') u,S4 u cH)=((λb=>Ret (J b) (I b)),some (m',k',e',h',w,w),some (L,op,l),some (d,g,xs),Hb (K3 u h'.length) y,true,Yw (K3 u h'.length) cH,tk))
  (K:∀b,XR Φ k' (f b) (.w d (ren (K3 u h'.length) (I b)) (.o L l)) (dgE tk e') (Sq h' (Aa (Ls B h') u (K3 u h'.length) tk (J b)))):XR Φ k (x>>=f) m e h:=λr z=>by
 simp only[Prod.mk.injEq]at D;obtain⟨rfl,Y,h2,T,U,Z,h6,rfl⟩:=D;have:=P1k h2;subst this;obtain⟨b,V,z⟩:=bind_some z;have v:=En (Hb (K3 u h'.length) y) xs;rw[U]at v;refine X.of Y (K0.lend (F:=Φ.F r) B ?_);refine K0.callHL u y cH T (by rw[Ph];exact v) (by rw[Ph];exact Z) (R18 (by rw[Ph];exact h6)) (O b V) λr1 c ⟨e1,e2⟩=>K0.nil ?_;subst e1;subst e2;have:=K b r z;rw[<-E1k]at this;rw[Ph];exact this
end
def B27 {G':Nat->Value}{f:Nat->Nat}{x:Ob}{g:Value}(h:M5 M G w x g)(V:∀o,G' (f o)=G o):M5 M G' w (Gt f x) g:=by
 cases x with
 |dead=>trivial
 |row T e=>
  obtain⟨b,us,J,I,U,u,O,q6⟩:=h;refine⟨b,us,J,I,by rw[Af];exact U,u,λj x v B hv=>?_,q6⟩;rw[Uw]at B;cases hc':T[j]? with
  |none=>rw[hc']at B;cases B
  |some z=>
   rw[hc']at B;simp only[Option.map_some,Option.some.injEq]at B;subst B;exact T1f (O j z v hc' hv) λo _=>V o
 |bld o e=>
  obtain⟨b,Z,J,I,U,u,O⟩:=h;exact⟨b,Z,J,by rw[V];exact I,U,by rw[V];exact u,O⟩
 |map es=>
  obtain⟨b,Y,cl,J,I,U,u,O⟩:=h;refine⟨b,Y,cl,J,I,U,λj k T e a c=>⟨(u j k T e a c).1,?_⟩,O⟩;refine((u j k T e a c).2).bare ?_;have:∀l:List D,R2 0 (l.map .d)=true:=λl=>by
   induction l with
   |nil=>rfl
   |cons x r X=>simp[R2,P4,X]
  match T with
  |[]=>rfl
  |[x]=>rfl
  |x::y::r=>simp only[Mc,P4];exact this _
 |_=>exact h
def sw (p n o:Nat):Nat:=bif Nat.beq o n then p else o
def mbE (p n:Nat)(env:Env):Env:=λt=>ren (sw p n) (dg [p] (env t))
def mbG (p n:Nat)(e sz:Nat):Nat->F0->F0
 |_,[]=>[]
 |o,x::r=>(bif Nat.beq o p then .tok e sz else bif Nat.beq o n then .dead else Gt (sw p n) (dgO [p] x))::mbG p n e sz (o+1) r
def N1n {p n e sz:Nat}:∀{H:F0} {k:Nat},(mbG p n e sz k H).length=H.length
 |[],k=>rfl
 |x::r,k=>by simp only[mbG,List.length_cons,N1n (H:=r)]
def R1x {p n e sz:Nat}:∀{H:F0} {k o:Nat},(mbG p n e sz k H)[o]?=(H[o]?).map λx=>if k+o=p then .tok e sz else if k+o=n then .dead else Gt (sw p n) (dgO [p] x)
 |[],k,o=>by simp[mbG]
 |x::r,k,0=>by
  simp only[mbG,List.getElem?_cons_zero,Option.map_some,Nat.add_zero,Option.some.injEq];by_cases h1:k=p
  ·rw[if_pos h1,show Nat.beq k p=true by rw[h1];exact Nat.beq_refl p];rfl
  ·rw[if_neg h1,show Nat.beq k p=false by cases hb:Nat.beq k p with|false=>rfl|true=>exact absurd (Nat.eq_of_beq_eq_true hb) h1];simp only[cond_false];by_cases h2:k=n
   ·rw[if_pos h2,show Nat.beq k n=true by rw[h2];exact Nat.beq_refl n];rfl
   ·rw[if_neg h2,show Nat.beq k n=false by cases hb:Nat.beq k n with|false=>rfl|true=>exact absurd (Nat.eq_of_beq_eq_true hb) h2];rfl
 |x::r,k,o+1=>by
  simp only[mbG,List.getElem?_cons_succ];rw[R1x,show k+1+o=k+(o+1) by omega]
section
variable {C:Cx}{N:FN}{M:Mem}{G:Nat->Value}{w:World}{env:Env}{H:F0}{a:Act}{p n e sz:Nat}
def O1a (_:p≠n){o:Nat}{z:Ob}(b:(mbG p n e sz 0 H)[o]?=some z):(o=p/\z = .tok e sz)\/(o=n/\z = .dead)\/(o≠p/\o≠n/\∃y,H[o]?=some y/\z=Gt (sw p n) (dgO [p] y)):=by
 rw[R1x,Nat.zero_add]at b;cases hy:H[o]? with
 |none=>rw[hy]at b;cases b
 |some y=>
  rw[hy]at b;simp only[Option.map_some,Option.some.injEq]at b;by_cases h1:o=p
  ·rw[if_pos h1]at b;exact .inl ⟨h1,b.symm⟩
  ·rw[if_neg h1]at b;by_cases h2:o=n
   ·rw[if_pos h2]at b;exact .inr (.inl ⟨h2,b.symm⟩)
   ·rw[if_neg h2]at b;exact .inr (.inr ⟨h1,h2,y,rfl,b.symm⟩)
def St.mb (h:St C N M G w env H a)(V:H[p]?=some .gone)(U:H[n]?=some (.tok e sz)):St C N M (I3 (I3 G p (G n)) n (.tuple #[])) w (mbE p n env) (mbG p n e sz 0 H) a:=by
 have d:p≠n:=λe=>by rw[e,U]at V;cases V
 have O:∀q∈[p],∃a l c,G q = .slice a l c:=λq hq=>by
  simp at hq;subst hq;exact h.hrel.obj q _ V
 have J:∀o,o∉[p]->(∀vs,G o≠.tuple vs)->I3 G p (G n) o=G o:=λo T _=>P1 (by simpa using T);have hg:∀o,I3 (I3 G p (G n)) n (.tuple #[]) (sw p n o)=I3 G p (G n) o:=λo=>by
  unfold sw;cases r:Nat.beq o n with
  |true=>
   obtain rfl:=Nat.eq_of_beq_eq_true r;simp only[cond_true];rw[P1 d,C2,P1 d.symm]
  |false=>
   simp only[cond_false];exact P1 λe=>by rw[e,Nat.beq_refl]at r;cases r
 have a3:=(List.getElem?_eq_some_iff.1 V).1;have a4:=(List.getElem?_eq_some_iff.1 U).1;have u:I3 (I3 G p (G n)) n (.tuple #[]) p=G n:=by rw[P1 d,C2]
 have D:∀{o},o≠p->o≠n->I3 (I3 G p (G n)) n (.tuple #[]) o=G o:=λv x=>by rw[P1 x,P1 v]
 have B:∀(o:Nat) z b,(mbG p n e sz 0 H)[o]?=some z->blk z (I3 (I3 G p (G n)) n (.tuple #[]) o) b->∃y,H[(if o=p then n else o)]?=some y/\blk y (G (if o=p then n else o)) b/\o≠n:=λo z b I r=>by
  rcases O1a d I with⟨rfl,rfl⟩|⟨rfl,rfl⟩|⟨v,x,y,X,rfl⟩
  ·rw[u]at r;rw[if_pos rfl];exact⟨_,U,r,d⟩
  ·simp[blk]at r
  ·rw[if_neg v];rw[D v x,Cf]at r;exact⟨y,X,Mu r,x⟩
 refine⟨h.good,⟨λG0 g cs e=>h.gl.tab G0 g cs e,h.gl.gp⟩,⟨λo z I=>?_,λo o' z z' b I Z r a0=>?_,λo T=>?_⟩,λt=>T1f (U1j (h.env t) O J) λo _=>hg o,h.size,h.defers⟩
 ·rcases O1a d I with⟨rfl,rfl⟩|⟨rfl,rfl⟩|⟨v,x,y,X,rfl⟩
  ·rw[u];exact h.hrel.obj n _ U
  ·trivial
  ·rw[D v x];exact B27 (Y1m (h.hrel.obj o y X) O J) hg
 ·obtain⟨y,v,x,h3⟩:=B o z b I r;obtain⟨y',Y,a2,a1⟩:=B o' z' b Z a0;have:=h.hrel.apart _ _ _ _ b v Y x a2;by_cases e1:o=p<;>by_cases e2:o'=p
  ·rw[e1,e2]
  ·rw[if_pos e1,if_neg e2]at this;exact absurd this.symm a1
  ·rw[if_neg e1,if_pos e2]at this;exact absurd this h3
  ·rw[if_neg e1,if_neg e2]at this;exact this
 ·rw[N1n]at T;rw[D (by omega) (by omega)];exact h.hrel.fresh o T
def D2.mb (h:D2 fr M G w H)(O:H[p]?=some .gone)(J:H[n]?=some (.tok e sz)):D2 fr M (I3 (I3 G p (G n)) n (.tuple #[])) w (mbG p n e sz 0 H):=by
 have r:p≠n:=λe=>by rw[e,J]at O;cases O
 have u:∀{o:Nat} {x:Ob},fr.H0[o]?=some x->isTok x=false->o≠p:=λc d e=>by
  subst e;have:=h.kind _ _ _ c d O;cases this
 have I:∀{o:Nat} {x:Ob},fr.H0[o]?=some x->isTok x=false->o≠n:=λc d e=>by
  subst e;have:=h.kind _ _ _ c d J;cases this
 refine⟨h.ext,λb ⟨o,z,B,v⟩=>?_,by rw[N1n];exact h.len,λo x c d=>?_,λo x z c d B=>?_⟩
 ·rcases O1a r B with⟨rfl,rfl⟩|⟨rfl,rfl⟩|⟨T,U,y,D,rfl⟩
  ·rw[P1 r,C2]at v;exact h.own b ⟨n,_,J,v⟩
  ·simp[blk]at v
  ·rw[P1 U,P1 T,Cf]at v;exact h.own b ⟨o,y,D,Mu v⟩
 ·rw[P1 (I c d),P1 (u c d)];exact h.keep o x c d
 ·rcases O1a r B with⟨rfl,rfl⟩|⟨rfl,rfl⟩|⟨T,U,y,D,rfl⟩
  ·exact absurd rfl (u c d)
  ·rfl
  ·rw[M1k,A1d];exact h.kind o x y c d D
end
def K0.mb {F:Fx}{L l:List Oper}{env:Env}{H:F0}{Q:Env->F0->Prop}(p n:Nat){e sz:Nat}(d:nth H p=some .gone)(c:nth H n=some (.tok e sz))(k:K0 F L l (mbE p n env) (mbG p n e sz 0 H) Q):K0 F L l env H Q:=by
 intro r M G w a z v u y b x;rw[Q2]at d c;exact k r M _ w a z v u (y.mb d c) (b.mb d c) x
section
variable {α:Type}{Φ:Fp α}{k k' k2:Kt}{p:Option α}{m m':Md}{e e':Env}{h h':F0}{w:List Bool}
def un {c:Code}(d:(rn Φ.C Φ.N 9999 m k e h,arr m' k2)=(some (m',k2,e',h',w,w),some (c,k')))[hc:Nonempty (T1 Φ.C)](K:XR Φ (.ag c k') p (.c c) e' h'):XR Φ k p m e h:=λr u=>by
 simp only[Prod.mk.injEq]at d;obtain⟨v,b⟩:=d;refine X.of v ?_;unfold arr at b;split at b
 ·cases b;exact .ofLoop (T8.unroll (K r u))
 ·cases b;exact T8.unroll (K r u)
 ·cases b
def lpr [hc:Nonempty (T1 Φ.C)](idx:List Nat)(L:List (Nat×A))(H2:F0){c:Code}{E:List (Nat×A)}(z:∀r,p=some r->T8 (Φ.F r) c (Gj E) H (QS (Φ.F r) k' (Wr (Φ.F r) Φ.rs (Φ.P r))))
  (u:(rn Φ.C Φ.N 9999 m k e h,arr m' k2,B1n e' L,Ep idx h'.length,Yr h' idx,(idK Φ.K idx&&Nat.ble Φ.K H2.length),B1i (Gj L) E,J17 H H2,okB Φ.K (N1 E) H)=(some (m',k2,e',h',w,w),some (c,k'),Hb (K3 idx h'.length) (N1 L),true,Yw (K3 idx h'.length) H2,true,N1 E,H,true)):XR Φ k p m e h:=λr D=>by
 simp only[Prod.mk.injEq]at u;obtain⟨O,b,v,B,y,x,J,I,T⟩:=u;refine X.of O ?_;have d:Wk (Φ.F r).K (Gj L) H2 E H:=wk2 J I T;unfold arr at b;split at b
 ·cases b;exact .ofLoop (T8.rj idx (.wk d (z r D)) v B y x)
 ·cases b;exact T8.rj idx (.wk d (z r D)) v B y x
 ·cases b
end
def AQ.me {C:Cx}(hC:T1 C){Q:Env->Prop}{es:List (List UInt8×Row)}{k:List UInt8}(h:L13 C L o env H=some ⟨d,es,k,b,z⟩)(e:lkA (Ch k es) z b=y)
  (c:AQ C L l (put env d y) H Q):AQ C L (o::l) env H Q:=.y _ (Jy h).2 (Jy h).1 (e▸Gw hC h rfl) c
def B4.mapsClone {C:Cx}{f:FuncId}{es:Kp}(hf:M10 C.P f=true)
  (hc:∀(b:Nat) ms d w,w.heap[b]?=some (.map ms d)->Calls C.P f #[.map (some b)] w λe w'=>e = .returned (.map (some w.heap.size))/\w'=w.alloc (.map ms d)):B4 C f [.mp 0] [.map es] (Ret [.map es,.map es] (.mp 1)):=by
 refine⟨hf,λM G w I hg a3 hh hl hr=>?_⟩;obtain⟨b,ms,d,g1,g2,g3,X,g5,g6⟩:=hh.obj 0 _ rfl;have a1:0<I.size:=by rw[<-hl];exact Nat.one_pos
 have hv:I[0]?=some I[0]:=Array.getElem?_eq_getElem a1;have h0:=hr 0 _ _ rfl hv;have a2:I = #[.map (some b)]:=by
  have e:I[0] = .map (some b):=by
   generalize I[0]=v at h0;cases h0;rename_i h;rw[g1]at h;exact h.symm
  apply Array.ext (by rw[<-hl];rfl);intro i h1 h2;have:i=0:=by simp at h2;omega
  subst this;exact e
 subst a2;refine(hc b ms d w g2).mono λe w' ⟨he,hw⟩=>?_;subst hw;have V:b<w.heap.size:=(Array.getElem?_eq_some_iff.1 g2).1;have E:Ext W5 M w M (w.alloc (.map ms d)):=Od _ _ _ _
 let G':=I3 G 1 (.map (some w.heap.size))
 have z:G' 0=G 0:=P1 (by decide);have B:G' 1 = .map (some w.heap.size):=C2;have u:∀{x:A} {v:Value},A1 M G x v->A1 M G' x v:=λhx=>hx.mono (λ_ _ e=>e) λo hn=>P1 (λe=>hx.names hn (by rw[e];exact hh.fresh 1 (Nat.le_refl _)));have hM:∀D Z,M ⟨w.heap.size,D,Z⟩=none:=λD Z=>by
  cases h:M ⟨w.heap.size,D,Z⟩with
  |none=>rfl
  |some v=>have:=hg.lt h;simp at this
 have k0:M5 M G' (w.alloc (.map ms d)) (.map es) (G' 0):=by
  rw[z];exact⟨b,ms,d,g1,(heap_alloc_old w _ V).trans g2,g3,λi k U e a c=>⟨(X i k U e a c).1,u (X i k U e a c).2⟩,g5,g6⟩
 have k1:M5 M G' (w.alloc (.map ms d)) (.map es) (G' 1):=by
  rw[B];exact⟨w.heap.size,ms,d,rfl,heap_alloc_new w _,g3,λi k U e a c=>⟨(X i k U e a c).1,u (X i k U e a c).2⟩,g5,hM⟩
 have O:∀(o:Nat) x,([Ob.map es,Ob.map es]:F0)[o]?=some x->(o=0\/o=1)/\x = .map es:=λo x r=>by
  match o,r with
  |0,r=>cases r;exact⟨.inl rfl,rfl⟩
  |1,r=>cases r;exact⟨.inr rfl,rfl⟩
  |o+2,r=>simp at r
 have b0:∀c,blk (.map es) (G' 0) c->c=b:=λc hc=>by rw[z,g1]at hc;exact hc.symm
 have Y:∀c,blk (.map es) (G' 1) c->c=w.heap.size:=λc hc=>by rw[B]at hc;exact hc.symm
 refine⟨_,.mp 1,[.map es,.map es],M,G',he,⟨rfl,rfl⟩,.mp B,hg.alloc _,⟨λo x r=>?_,λo o' x x' c r a0 J T=>?_,λo r=>?_⟩,Od _ _ _ _,λc ⟨o,x,r,J⟩=>?_,by simp,λo x r ht=>?_⟩
 ·obtain⟨h,rfl⟩:=O o x r;rcases h with rfl|rfl
  ·exact k0
  ·exact k1
 ·obtain⟨h,rfl⟩:=O o x r;obtain⟨h',rfl⟩:=O o' x' a0;rcases h with rfl|rfl<;>rcases h' with rfl|rfl
  ·rfl
  ·have:=b0 c J;have:=Y c T;omega
  ·have:=Y c J;have:=b0 c T;omega
  ·rfl
 ·show I3 G 1 _ o=_;rw[P1 (by simp at r;omega)];exact hh.fresh o (by simp at r⊢;omega)
 ·obtain⟨h,rfl⟩:=O o x r;rcases h with rfl|rfl
  ·exact .inl ⟨0,_,rfl,by rw[z]at J;exact J⟩
  ·have:=Y c J;exact .inr (by omega)
 ·match o,r with
  |0,r=>exact⟨z,λy hy=>by obtain⟨_,rfl⟩:=O 0 y hy;rfl⟩
  |o+1,r=>simp at r
open Go.RowKit
def U29 {w':World}(hg:Z3 M w)(hb:Below w.heap.size w w'){t:TypeId}{v:Value}{l:List Int}(hr:w'.ownsRow w.heap.size t 1 v l.length (l.map (Value.int .i64)))(hk:∀x∈l,InK .i64 x) :
  ∃M',(∀a u,M a=some u->M' a=some u)/\Z3 M' w'/\F2 M' (.sl (l.map λx=>[D.int .i64 x])) v/\∀a u,M' a=some u->M a=some u\/w.heap.size<=a.block:=by
 have I:Z3 M w':=λa u e=>by
  rcases hg a u e with⟨J,V⟩|⟨J,ms,cl,V,h3⟩|⟨J,V,h3⟩
  ·exact .inl ⟨J,(hb.cell (hg.lt e)).trans V⟩
  ·exact .inr (.inl ⟨J,ms,cl,(hb.block _ (hg.lt e)).trans V,h3⟩)
  ·exact .inr (.inr ⟨J,Nat.lt_of_lt_of_le V hb.size,h3⟩)
 rcases hr.2 with⟨rfl,h0⟩|⟨g,a4,c,rfl,a0,a2,J,V,h3,h4⟩
 ·have:l=[]:=List.eq_nil_of_length_eq_zero h0;subst this;exact⟨M,λ_ _ e=>e,I,.slnil,λ_ _ e=>.inl e⟩
 ·let M':Mem:=λb=>if b.block=g/\b.spot=none then c[b.off]? else M b
  have hn:∀X sp,M ⟨g,X,sp⟩=none:=λX sp=>by
   cases h:M ⟨g,X,sp⟩with
   |none=>rfl
   |some u=>have:=hg.lt h;simp only at this;omega
  have Y:∀b u,M b=some u->M' b=some u:=λb u U=>by
   show(if b.block=g/\b.spot=none then c[b.off]? else M b)=some u;rw[if_neg]
   ·exact U
   ·rintro⟨J,V⟩;obtain⟨T,Z,ss⟩:=b;simp only at J;subst J;rw[hn]at U;cases U
  have a1:∀i x,l[i]?=some x->c[i]?=some (Value.int .i64 x):=λi x B=>by
   have a3:=(List.getElem?_eq_some_iff.1 B).1;have:=congrArg (λz:List Value=>z[i]?) h4;simp only[Nat.mul_one]at this;rw[List.getElem?_take_of_lt a3,List.getElem?_map,B]at this;simpa using this
  refine⟨M',Y,λb u e0=>?_,?_,λb u U=>?_⟩
  ·obtain⟨T,Z,ss⟩:=b;by_cases O:T=g/\ss=none
   ·obtain⟨rfl,rfl⟩:=O;have e4:c[Z]?=some u:=by
     have:(if T=T/\(none:Option Nat)=none then c[Z]? else M ⟨T,Z,none⟩)=some u:=e0;rwa[if_pos ⟨rfl,rfl⟩]at this
    exact .inl ⟨rfl,by rw[Ye a2];exact e4⟩
   ·have e4:M ⟨T,Z,ss⟩=some u:=by
     have:(if T=g/\ss=none then c[Z]? else M ⟨T,Z,ss⟩)=some u:=e0;rwa[if_neg O]at this
    exact I _ u e4
  ·refine .sl 1 (λi _=>c[i]?.getD undef) (by simp) J V (.inr rfl) (λi r d=>?_) (λi j r x d hj=>?_) (λi j r x d hj=>?_)
   ·rw[List.getElem?_map]at d;cases B:l[i]? with
    |none=>rw[B]at d;cases d
    |some y=>rw[B]at d;cases d;rfl
   ·rw[List.getElem?_map]at d;cases B:l[i]? with
    |none=>rw[B]at d;cases d
    |some y=>
     rw[B]at d;cases d;cases j with
     |succ j=>simp at hj
     |zero=>
      rw[B5];show(if g=g/\(none:Option Nat)=none then c[0+(i*1+0)]? else _)=_;rw[if_pos ⟨rfl,rfl⟩];simp[a1 i y B]
   ·rw[List.getElem?_map]at d;cases B:l[i]? with
    |none=>rw[B]at d;cases d
    |some y=>
     rw[B]at d;cases d;cases j with
     |succ j=>simp at hj
     |zero=>
      simp at hj;subst hj;rw[a1 i y B];exact .int (hk y (List.mem_of_getElem? B))
  ·have U:(if b.block=g/\b.spot=none then c[b.off]? else M b)=some u:=U;split at U
   ·rename_i O;exact .inr (by rw[O.1];exact a0)
   ·exact .inl U
def B4.ownInts {C:Cx}{f:FuncId}{z:List A}{l:List Int}{t:TypeId}(hf:M10 C.P f=true)
  (hc:∀M G w (vs:Array Value),Z3 M w->L10 C M w->Z6 M G w H->z.length=vs.size->(∀(i:Nat) x v,z[i]?=some x->vs[i]?=some v->A1 M G x v)->
   (∀x∈l,InK .i64 x)/\Calls C.P f vs w λe V=>∃v,e = .returned v/\V.ownsRow w.heap.size t 1 v l.length (l.map (Value.int .i64))/\Below w.heap.size w V):B4 C f z H (Ret H (.d (.sl (l.map λx=>[D.int .i64 x])))):=by
 refine⟨hf,λM G w vs hg X T hl hr=>?_⟩;obtain⟨hk,hc⟩:=hc M G w vs hg X T hl hr;refine hc.mono λe V ⟨v,he,O,B⟩=>?_;obtain⟨M',h1,h2,h3,h4⟩:=U29 hg B O hk;refine⟨v,_,H,M',G,he,⟨rfl,rfl⟩,.d h3,h2,⟨λo x J=>?_,λo o' x x' c J Z hx Y=>T.apart o o' x x' c J Z hx Y,T.fresh⟩,⟨h1,B.size,B.os,B.output,B.tape,λb r _=>B.block b r,λa u e1=>(h4 a u e1).imp id .inr⟩,λb r=>.inl r,Nat.le_refl _,λo x J ht=>⟨rfl,λy hy=>by rw[J]at hy;cases hy;exact ht⟩⟩;have I:=T.obj o x J;refine I.keep h1 B.size (λb r=>B.block b (V7 I r)) λb r U sp hn=>?_;cases h:M' ⟨b,U,sp⟩with
 |none=>rfl
 |some u=>
  rcases h4 _ u h with h5|h5
  ·rw[hn]at h5;cases h5
  ·have:=V7 I r;simp only at h5;omega
end Go.Am

