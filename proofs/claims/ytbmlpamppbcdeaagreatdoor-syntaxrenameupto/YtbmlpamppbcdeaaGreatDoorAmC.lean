/- A part of the proof of SyntaxRename. -/
import Derived.Test.YtbmlpamppbcdeaaGreatDoorAmB
import Derived.WalkSmall
namespace Go.Am
end Go.Am

namespace Go.Am
def idK (K:Nat)(idx:List Nat):Bool:=(List.range K).all fun k=>Nat.beq (L1m idx k) k
theorem A1n (f:Nat→Nat)(x:Ob):isTok (Ir f x)=isTok x:=by cases x <;> rfl
section
variable {F:Fx}{env:Env}{H:P0}{L:List (Nat×A)}{H2:P0}{idx:List Nat}
theorem I1r (h1:Gy env L=Ui (U4 idx H.length) (K1 L))(hi:Kr idx H.length=true)(hm:Jt H idx=J11 (U4 idx H.length) H2)(hk:(idK F.K idx&&Nat.ble F.K H2.length)=true)
  {fr:Fr} {M:Mem} {G:Nat→Value} {w:World} {a:Act} (hK:fr.H0.length=F.K) (hs:St F.C F.N M G w env H a) (hsi:Y1 fr M G w H):∃ G',St F.C F.N M G' w (Dl L) H2 a∧Y1 fr M G' w H2:=by
 have hm:=U1e hm
 generalize hf:U4 idx H.length=f at *
 obtain ⟨hlen,hmatch⟩:=hm.spec
 simp only [Kr,Bool.and_eq_true] at hi hk
 have hnd:=Kn hi.1
 have hlt:∀ p∈idx,p < H.length:=fun p hp=>by simpa using List.all_eq_true.1 hi.2 p hp
 have hKle:=Nat.le_of_ble_eq_true hk.2
 have f_lt:∀ {i p:Nat},idx[i]?=some p→f i=p:=fun {i p} hip=>by
  have:i < idx.length:=(List.getElem?_eq_some_iff.1 hip).1
  have hb:Nat.blt i idx.length=true:=Nat.ble_eq_true_of_le this
  rw [← hf]
  simp [U4,hb,L1m,N3,hip]
 have f_ge:∀ {i:Nat},idx.length≤i→f i=H.length+(i - idx.length):=fun {i} hi'=>by
  have hb:Nat.blt i idx.length=false:=by
   cases hb:Nat.blt i idx.length with
   | false=>rfl
   | true=>have:=Nat.le_of_ble_eq_true hb; omega
  rw [← hf]
  simp [U4,hb]
 have f_id:∀ {o:Nat},o < F.K→f o=o:=fun {o} ho=>by
  have h2:=List.all_eq_true.1 hk.1 o (List.mem_range.2 ho)
  have hb:Nat.blt o idx.length=true:=Nat.ble_eq_true_of_le (by omega)
  rw [← hf]
  simp only [U4,hb,_root_.cond_true]
  exact Nat.eq_of_beq_eq_true h2
 have hcH:R9 M (fun i=>G (f i)) w H2:=by
  refine ⟨fun i y hy=>?_,fun i i' y y' b hy hy' hb hb'=>?_,fun i hi'=>?_⟩
  ·obtain ⟨p,hp,hHp⟩:=hmatch i y hy
   have hob:=hs.hrel.obj p _ hHp
   simp only [f_lt hp]
   cases y with
   | dead=>trivial
   | row cs e=>
    obtain ⟨b,us,g1,g2,g3,g4,g5,g6⟩:=hob
    exact ⟨b,us,g1,g2,by rw [Eg] at g3; exact g3,g4,Tq cs us g5,g6⟩
   | bld o e=>exact hob
   | buf e sz=>exact hob
   | tok e sz=>exact hob
   | map es=>
    obtain ⟨b,ms,cl,g1,g2,g3,g4,g5⟩:=hob
    refine ⟨b,ms,cl,g1,g2,g3,fun j k cs e a c=>⟨(g4 j k cs e a c).1,?_⟩,g5⟩
    refine ((g4 j k cs e a c).2).bare ?_
    have:∀ l:List D,D2 0 (l.map .d)=true:=fun l=>by
     induction l with
     | nil=>rfl
     | cons x r ih=>simp [D2,T4,ih]
    match cs with
    | []=>rfl
    | [x]=>rfl
    | x::y::r=>simp only [Gq,T4]; exact this _
  ·obtain ⟨p,hp,hHp⟩:=hmatch i y hy
   obtain ⟨p',hp',hHp'⟩:=hmatch i' y' hy'
   simp only [f_lt hp] at hb
   simp only [f_lt hp'] at hb'
   have:=hs.hrel.apart p p' _ _ b hHp hHp' (by rw [Gi]; exact hb) (by rw [Gi]; exact hb')
   subst this
   have e1:=H18 hnd hp
   have e2:=H18 hnd hp'
   rw [e1] at e2
   exact Option.some.inj e2
  ·simp only [f_ge (by omega:idx.length≤i)]
   exact hs.hrel.fresh _ (by omega)
 have hown:∀ b,own (fun i=>G (f i)) H2 b→own G H b:=fun b ⟨i,y,hy,hb⟩=>by
  obtain ⟨p,hp,hHp⟩:=hmatch i y hy
  simp only [f_lt hp] at hb
  exact ⟨p,_,hHp,by rw [Gi]; exact hb⟩
 have henv:∀ (L:List (Nat×A)),Gy env L=Ui f (K1 L)→∀ t,V0 M (fun i=>G (f i)) (Dl L t) (a.tmps.getD t undef):=by
  intro L
  induction L with
  | nil=>intro _ t; exact .junk
  | cons p r ih=>
   intro h t
   simp only [Gy,K1,Ui,List.cons.injEq] at h
   simp only [Dl,upd]
   cases hb:Nat.beq t p.1 with
   | true=>
    have:=Nat.eq_of_beq_eq_true hb
    subst this
    simp only [_root_.cond_true]
    exact J1o p.2 _ (by rw [← h.1]; exact hs.env _)
   | false=>
    simp only [_root_.cond_false]
    exact ih h.2 t
 refine ⟨fun i=>G (f i),⟨hs.good,⟨fun G0 g cs e=>(hs.gl.tab G0 g cs e),hs.gl.gp⟩,hcH,henv L h1,hs.size,hs.defers⟩,hsi.ext,fun b hb=>hsi.own b (hown b hb),by omega,fun o x ho ht=>?_,fun o x y ho ht hy=>?_⟩
 ·have hol:=(List.getElem?_eq_some_iff.1 ho).1
  simp only [f_id (by omega:o < F.K)]
  exact hsi.keep o x ho ht
 ·have hol:=(List.getElem?_eq_some_iff.1 ho).1
  obtain ⟨p,hp,hHp⟩:=hmatch o y hy
  have hpo:p=o:=by rw [← f_lt hp,f_id (by omega)]
  rw [hpo] at hHp
  have:=hsi.kind o x _ ho ht hHp
  rwa [A1n] at this
theorem Y0.rj {c:Code}{Q:Po}(idx:List Nat)(k:Y0 F c (Dl L) H2 Q)(h1:Gy env L=Ui (U4 idx H.length) (K1 L))(hi:Kr idx H.length=true)(hm:Jt H idx=J11 (U4 idx H.length) H2)(hk:(idK F.K idx&&Nat.ble F.K H2.length)=true):Y0 F c env H Q:=by
 intro fr M G w a hK hs hsi
 obtain ⟨G',h2,h3⟩:=I1r h1 hi hm hk hK hs hsi
 exact k fr M G' w a hK h2 h3
end
end Go.Am

