/- A part of the proof of ParserBrackets. -/
import Derived.Test.YtmnhfbekncjnfaaDoorProg
import Derived.Test.YtmnhfbekncjnfaaDoorAmB
import Derived.Test.YtmnhfbekncjnfaaDoorAmC
import Derived.Test.YtmnhfbekncjnfaaDoorAmF
import Derived.KernelRfl
import Derived.Test.YtmnhfbekncjnfaaDoorShA
import Derived.Lib.ItoaNum
import Derived.Lib.AppendIntMem
import Derived.Test.YtmnhfbekncjnfaaDoorAmG
import Derived.Tactics
import Derived.Tactics2
import Derived.Defers
import Derived.Recover
import Derived.Laws.Pointers
import Derived.Lib.SmallJoins
import Derived.Lib.Atoi
import Derived.Lib.Bytealg
namespace Go.Proofs.YtmnhfbekncjnfaaDoor
open Go.Am
def T:TT:=[
 (1,⟨.func,1,8,[.nilv .func]⟩),
 (2,⟨.int .i64,1,8,[.int .i64 0]⟩),
 (3,⟨.int .i64,1,8,[.int .i64 0]⟩),
 (4,⟨.bool,1,1,[.bool false]⟩),
 (5,⟨.int .u8,1,1,[.int .u8 0]⟩),
 (6,⟨.int .u8,1,1,[.int .u8 0]⟩),
 (7,⟨.st [(2,0,1),(3,1,1),(4,2,1),(6,3,1)],4,24,[.int .i64 0,.int .i64 0,.bool false,.int .u8 0]⟩),
 (8,⟨.st [(2,0,1),(3,1,1),(4,2,1),(6,3,1)],4,24,[.int .i64 0,.int .i64 0,.bool false,.int .u8 0]⟩),
 (9,⟨.str,1,16,[.str []]⟩),
 (10,⟨.str,1,16,[.str []]⟩),
 (11,⟨.str,1,16,[.str []]⟩),
 (12,⟨.int .u64,1,8,[.int .u64 0]⟩),
 (13,⟨.st [(9,0,1),(12,1,1)],2,24,[.str [],.int .u64 0]⟩),
 (14,⟨.st [(9,0,1),(12,1,1)],2,24,[.str [],.int .u64 0]⟩),
 (15,⟨.ptr 121,1,8,[.nilv .ptr]⟩),
 (16,⟨.ptr 124,1,8,[.nilv .ptr]⟩),
 (17,⟨.ptr 131,1,8,[.nilv .ptr]⟩),
 (18,⟨.st [(17,0,1)],1,8,[.nilv .ptr]⟩),
 (19,⟨.st [(17,0,1)],1,8,[.nilv .ptr]⟩),
 (20,⟨.iface,1,16,[.nilv .iface]⟩),
 (21,⟨.int .i32,1,4,[.int .i32 0]⟩),
 (22,⟨.func,1,8,[.nilv .func]⟩),
 (23,⟨.int .i64,1,8,[.int .i64 0]⟩),
 (24,⟨.sl 26,1,24,[.sl []]⟩),
 (25,⟨.st [(23,0,1),(3,1,1),(9,2,1),(24,3,1)],4,56,[.int .i64 0,.int .i64 0,.str [],.sl []]⟩),
 (26,⟨.st [(23,0,1),(3,1,1),(9,2,1),(24,3,1)],4,56,[.int .i64 0,.int .i64 0,.str [],.sl []]⟩),
 (27,⟨.int .i64,1,8,[.int .i64 0]⟩),
 (29,⟨.func,1,8,[.nilv .func]⟩),
 (30,⟨.func,1,8,[.nilv .func]⟩),
 (31,⟨.func,1,8,[.nilv .func]⟩),
 (32,⟨.func,1,8,[.nilv .func]⟩),
 (34,⟨.func,1,8,[.nilv .func]⟩),
 (35,⟨.ptr 45,1,8,[.nilv .ptr]⟩),
 (36,⟨.func,1,8,[.nilv .func]⟩),
 (37,⟨.func,1,8,[.nilv .func]⟩),
 (38,⟨.func,1,8,[.nilv .func]⟩),
 (39,⟨.sl 55,1,24,[.sl []]⟩),
 (41,⟨.func,1,8,[.nilv .func]⟩),
 (42,⟨.st [(3,0,1)],1,8,[.int .i64 0]⟩),
 (43,⟨.st [(3,0,1)],1,8,[.int .i64 0]⟩),
 (44,⟨.st [(39,0,1),(3,1,1),(3,2,1)],3,40,[.sl [],.int .i64 0,.int .i64 0]⟩),
 (45,⟨.st [(39,0,1),(3,1,1),(3,2,1)],3,40,[.sl [],.int .i64 0,.int .i64 0]⟩),
 (46,⟨.func,1,8,[.nilv .func]⟩),
 (47,⟨.func,1,8,[.nilv .func]⟩),
 (48,⟨.ptr 50,1,8,[.nilv .ptr]⟩),
 (49,⟨.st [(3,0,1),(3,1,1),(4,2,1),(4,3,1),(4,4,1)],5,24,[.int .i64 0,.int .i64 0,.bool false,.bool false,.bool false]⟩),
 (50,⟨.st [(3,0,1),(3,1,1),(4,2,1),(4,3,1),(4,4,1)],5,24,[.int .i64 0,.int .i64 0,.bool false,.bool false,.bool false]⟩),
 (51,⟨.func,1,8,[.nilv .func]⟩),
 (52,⟨.func,1,8,[.nilv .func]⟩),
 (53,⟨.int .i64,1,8,[.int .i64 0]⟩),
 (54,⟨.st [(53,0,1),(9,1,1),(3,2,1)],3,32,[.int .i64 0,.str [],.int .i64 0]⟩),
 (55,⟨.st [(53,0,1),(9,1,1),(3,2,1)],3,32,[.int .i64 0,.str [],.int .i64 0]⟩),
 (57,⟨.func,1,8,[.nilv .func]⟩),
 (58,⟨.func,1,8,[.nilv .func]⟩),
 (59,⟨.func,1,8,[.nilv .func]⟩),
 (60,⟨.func,1,8,[.nilv .func]⟩),
 (61,⟨.func,1,8,[.nilv .func]⟩),
 (62,⟨.func,1,8,[.nilv .func]⟩),
 (63,⟨.func,1,8,[.nilv .func]⟩),
 (64,⟨.func,1,8,[.nilv .func]⟩),
 (65,⟨.func,1,8,[.nilv .func]⟩),
 (66,⟨.func,1,8,[.nilv .func]⟩),
 (67,⟨.func,1,8,[.nilv .func]⟩),
 (68,⟨.func,1,8,[.nilv .func]⟩),
 (70,⟨.func,1,8,[.nilv .func]⟩),
 (71,⟨.func,1,8,[.nilv .func]⟩),
 (72,⟨.func,1,8,[.nilv .func]⟩),
 (73,⟨.func,1,8,[.nilv .func]⟩),
 (74,⟨.int .u64,1,8,[.int .u64 0]⟩),
 (75,⟨.int .u32,1,4,[.int .u32 0]⟩),
 (77,⟨.func,1,8,[.nilv .func]⟩),
 (78,⟨.func,1,8,[.nilv .func]⟩),
 (79,⟨.func,1,8,[.nilv .func]⟩),
 (80,⟨.func,1,8,[.nilv .func]⟩),
 (81,⟨.iface,1,16,[.nilv .iface]⟩),
 (82,⟨.iface,1,16,[.nilv .iface]⟩),
 (84,⟨.func,1,8,[.nilv .func]⟩),
 (85,⟨.func,1,8,[.nilv .func]⟩),
 (86,⟨.func,1,8,[.nilv .func]⟩),
 (87,⟨.int .i64,1,8,[.int .i64 0]⟩),
 (88,⟨.sl 5,1,24,[.sl []]⟩),
 (90,⟨.func,1,8,[.nilv .func]⟩),
 (91,⟨.ptr 98,1,8,[.nilv .ptr]⟩),
 (92,⟨.func,1,8,[.nilv .func]⟩),
 (93,⟨.func,1,8,[.nilv .func]⟩),
 (94,⟨.int .u64,1,8,[.int .u64 0]⟩),
 (96,⟨.func,1,8,[.nilv .func]⟩),
 (97,⟨.st [(9,0,1),(9,1,1),(82,2,1)],3,48,[.str [],.str [],.nilv .iface]⟩),
 (98,⟨.st [(9,0,1),(9,1,1),(82,2,1)],3,48,[.str [],.str [],.nilv .iface]⟩),
 (99,⟨.func,1,8,[.nilv .func]⟩),
 (100,⟨.func,1,8,[.nilv .func]⟩),
 (101,⟨.func,1,8,[.nilv .func]⟩),
 (102,⟨.ptr 5,1,8,[.nilv .ptr]⟩),
 (103,⟨.ptr 105,1,8,[.nilv .ptr]⟩),
 (104,⟨.st [(9,0,1)],1,16,[.str []]⟩),
 (105,⟨.st [(9,0,1)],1,16,[.str []]⟩),
 (106,⟨.func,1,8,[.nilv .func]⟩),
 (107,⟨.arr 24 5,24,24,[.int .u8 0,.int .u8 0,.int .u8 0,.int .u8 0,.int .u8 0,.int .u8 0,.int .u8 0,.int .u8 0,.int .u8 0,.int .u8 0,.int .u8 0,.int .u8 0,.int .u8 0,.int .u8 0,.int .u8 0,.int .u8 0,.int .u8 0,.int .u8 0,.int .u8 0,.int .u8 0,.int .u8 0,.int .u8 0,.int .u8 0,.int .u8 0]⟩),
 (108,⟨.func,1,8,[.nilv .func]⟩),
 (109,⟨.func,1,8,[.nilv .func]⟩),
 (111,⟨.func,1,8,[.nilv .func]⟩),
 (112,⟨.func,1,8,[.nilv .func]⟩),
 (113,⟨.arr 20 94,20,160,[.int .u64 0,.int .u64 0,.int .u64 0,.int .u64 0,.int .u64 0,.int .u64 0,.int .u64 0,.int .u64 0,.int .u64 0,.int .u64 0,.int .u64 0,.int .u64 0,.int .u64 0,.int .u64 0,.int .u64 0,.int .u64 0,.int .u64 0,.int .u64 0,.int .u64 0,.int .u64 0]⟩),
 (114,⟨.arr 65 5,65,65,[.int .u8 0,.int .u8 0,.int .u8 0,.int .u8 0,.int .u8 0,.int .u8 0,.int .u8 0,.int .u8 0,.int .u8 0,.int .u8 0,.int .u8 0,.int .u8 0,.int .u8 0,.int .u8 0,.int .u8 0,.int .u8 0,.int .u8 0,.int .u8 0,.int .u8 0,.int .u8 0,.int .u8 0,.int .u8 0,.int .u8 0,.int .u8 0,.int .u8 0,.int .u8 0,.int .u8 0,.int .u8 0,.int .u8 0,.int .u8 0,.int .u8 0,.int .u8 0,.int .u8 0,.int .u8 0,.int .u8 0,.int .u8 0,.int .u8 0,.int .u8 0,.int .u8 0,.int .u8 0,.int .u8 0,.int .u8 0,.int .u8 0,.int .u8 0,.int .u8 0,.int .u8 0,.int .u8 0,.int .u8 0,.int .u8 0,.int .u8 0,.int .u8 0,.int .u8 0,.int .u8 0,.int .u8 0,.int .u8 0,.int .u8 0,.int .u8 0,.int .u8 0,.int .u8 0,.int .u8 0,.int .u8 0,.int .u8 0,.int .u8 0,.int .u8 0,.int .u8 0]⟩),
 (115,⟨.func,1,8,[.nilv .func]⟩),
 (116,⟨.func,1,8,[.nilv .func]⟩),
 (117,⟨.func,1,8,[.nilv .func]⟩),
 (118,⟨.arr 32 5,32,32,[.int .u8 0,.int .u8 0,.int .u8 0,.int .u8 0,.int .u8 0,.int .u8 0,.int .u8 0,.int .u8 0,.int .u8 0,.int .u8 0,.int .u8 0,.int .u8 0,.int .u8 0,.int .u8 0,.int .u8 0,.int .u8 0,.int .u8 0,.int .u8 0,.int .u8 0,.int .u8 0,.int .u8 0,.int .u8 0,.int .u8 0,.int .u8 0,.int .u8 0,.int .u8 0,.int .u8 0,.int .u8 0,.int .u8 0,.int .u8 0,.int .u8 0,.int .u8 0]⟩),
 (119,⟨.arr 64 5,64,64,[.int .u8 0,.int .u8 0,.int .u8 0,.int .u8 0,.int .u8 0,.int .u8 0,.int .u8 0,.int .u8 0,.int .u8 0,.int .u8 0,.int .u8 0,.int .u8 0,.int .u8 0,.int .u8 0,.int .u8 0,.int .u8 0,.int .u8 0,.int .u8 0,.int .u8 0,.int .u8 0,.int .u8 0,.int .u8 0,.int .u8 0,.int .u8 0,.int .u8 0,.int .u8 0,.int .u8 0,.int .u8 0,.int .u8 0,.int .u8 0,.int .u8 0,.int .u8 0,.int .u8 0,.int .u8 0,.int .u8 0,.int .u8 0,.int .u8 0,.int .u8 0,.int .u8 0,.int .u8 0,.int .u8 0,.int .u8 0,.int .u8 0,.int .u8 0,.int .u8 0,.int .u8 0,.int .u8 0,.int .u8 0,.int .u8 0,.int .u8 0,.int .u8 0,.int .u8 0,.int .u8 0,.int .u8 0,.int .u8 0,.int .u8 0,.int .u8 0,.int .u8 0,.int .u8 0,.int .u8 0,.int .u8 0,.int .u8 0,.int .u8 0,.int .u8 0]⟩),
 (120,⟨.st [(17,0,1),(17,1,1),(17,2,1),(9,3,1)],4,40,[.nilv .ptr,.nilv .ptr,.nilv .ptr,.str []]⟩),
 (121,⟨.st [(17,0,1),(17,1,1),(17,2,1),(9,3,1)],4,40,[.nilv .ptr,.nilv .ptr,.nilv .ptr,.str []]⟩),
 (125,⟨.int .u8,1,1,[.int .u8 0]⟩),
 (126,⟨.int .u8,1,1,[.int .u8 0]⟩),
 (127,⟨.func,1,8,[.nilv .func]⟩),
 (128,⟨.int .i32,1,4,[.int .i32 0]⟩),
 (129,⟨.int .i32,1,4,[.int .i32 0]⟩),
 (130,⟨.st [(12,0,1),(12,1,1),(75,2,1),(125,3,1),(5,4,1),(5,5,1),(126,6,1),(127,7,1),(102,8,1),(128,9,1),(129,10,1)],11,48,[.int .u64 0,.int .u64 0,.int .u32 0,.int .u8 0,.int .u8 0,.int .u8 0,.int .u8 0,.nilv .func,.nilv .ptr,.int .i32 0,.int .i32 0]⟩),
 (131,⟨.st [(12,0,1),(12,1,1),(75,2,1),(125,3,1),(5,4,1),(5,5,1),(126,6,1),(127,7,1),(102,8,1),(128,9,1),(129,10,1)],11,48,[.int .u64 0,.int .u64 0,.int .u32 0,.int .u8 0,.int .u8 0,.int .u8 0,.int .u8 0,.nilv .func,.nilv .ptr,.int .i32 0,.int .i32 0]⟩)]
theorem tok:TOk Tryd.prog T:=F13 _ _ (by kernel_rfl)
def Gp (M:Mem)(w:World):Prop:=(∃ m:Int,M ⟨0,0,none⟩=some (.int .i64 m))∧(∀ (j:Nat) z,Lib.pow10Tab[j]?=some z→M ⟨3,j,none⟩=some (.int .u64 z))∧Lib.TabIs Tryd.prog w "internal/strconv.uint64pow10" .u64 Lib.pow10Tab
noncomputable def C:Cx:=⟨Tryd.prog,T,[],Gp,fun {M M' w w'} hm hb h=>(by
 obtain ⟨⟨m,h0⟩,h1,h2⟩:=h
 exact ⟨⟨m,hm _ _ h0⟩,fun j z hz=>hm _ _ (h1 j z hz),I12 (by kernel_rfl) (by decide) h1 hb h2⟩)⟩
theorem follows:Tryd.prog.follows .mixedOrders=true:=by kernel_rfl
theorem hC:L1 C:=⟨tok,follows⟩
end Go.Proofs.YtmnhfbekncjnfaaDoor

set_option linter.unusedVariables false
set_option linter.unusedSimpArgs false
namespace Go.Proofs.YtmnhfbekncjnfaaDoor
open Go.Am
def Kc (s t:Str):Option Bool:=if decide (s.length < 4294967281)=true then some (Lib.contains s t) else none
theorem Tn {s t:Str}{res:Bool}(hh:Kc s t=some res):S0 C 41 [.d (.str s),.d (.str t)] [] (fun x H'=>H'=[]∧x = .d (.bool res)):=by
 obtain ⟨hs,hh⟩:=Ac hh
 cases hh
 refine S0.ofBelow (Xp Tryd.func41 rfl rfl) fun M G w vs hg hgl hl hr=>?_
 obtain ⟨h0,_⟩:=Ln hl hr (i:=0) rfl
 obtain ⟨h1,_⟩:=Ln hl hr (i:=1) rfl
 obtain rfl:=N18 hl.symm h0 h1
 obtain ⟨⟨m,hm⟩,_⟩:=hgl.gp
 refine ⟨.bool (Lib.contains s t),fun _ _=>.d .bool,(Tryd.strings_Contains ⟨s.toArray⟩ ⟨t.toArray⟩ m w (by rw [Xl]; exact hs) (hg.at hm rfl)).mono ?_⟩
 rintro e w' ⟨he,rfl⟩
 exact ⟨by simpa using he,.refl _ _⟩
def K14 (n:Int):Option Str:=if decide (-1000000000000000000 < n∧n < 1000000000000000000)=true then some (Lib.itoa n) else none
def Py (n:Int):Option Str:=if decide (0≤n∧n < 100)=true then some (if n.toNat < 10 then [UInt8.ofNat (48+n.toNat)] else [UInt8.ofNat (48+n.toNat / 10),UInt8.ofNat (48+n.toNat % 10)]) else none
theorem K0 (n:Int):Le (Py n) (K14 n):=by
 unfold Py K14
 by_cases h:0≤n∧n < 100
 ·rw [if_pos (decide_eq_true h),if_pos (decide_eq_true (by omega))]
  obtain ⟨k,rfl⟩:∃ k:Nat,n=k:=⟨n.toNat,by omega⟩
  have hk:k < 100:=by omega
  have:∀ k < 100,(if k < 10 then [UInt8.ofNat (48+k)] else [UInt8.ofNat (48+k / 10),UInt8.ofNat (48+k % 10)])=Lib.decDigits k:=by
   intro k hk
   rw [Lib.decDigits]
   split
   ·rfl
   ·rename_i h
    rw [Lib.decDigits,dif_pos (by omega)]
    rfl
  rw [show (k:Int).toNat=k from rfl,this k hk]
  unfold Lib.itoa
  rw [if_neg (by omega)]
  exact Le.rfl
 ·rw [if_neg (by simpa using h)]
  exact Le.none
end Go.Proofs.YtmnhfbekncjnfaaDoor

set_option maxRecDepth 100000
set_option maxHeartbeats 1000000
namespace Go.Proofs.YtmnhfbekncjnfaaDoor
open Go.Am
theorem neC:Nonempty (L1 C):=⟨hC⟩
attribute [local instance] neC
def V4 (n:Int):Value:=.iface 43 (.agg #[.int .i64 n])
theorem K12 (va vb:Value)(w:World):CallsD Tryd.prog 13 #[va,vb] .returning w fun e u w'=>(∃ v,e = .returned v)∧u = .returning∧w'=w:=by
 refine callsD_of_wpS Tryd.func13 rfl fun c₀ cs hu=>?_
 apply wpS_seq
 apply wpS_region
 simp [wpOpsS,go_sem,recoverD,hu,Tryd.ntmps13,Exit.thenS]
 refine wpS_of_wp ?_
 go_wp2
 cases c₀
 simp_all [bodyPostS,results,Tryd.results13]
noncomputable def Dt:Code:=match Tryd.f13.body with
 | some (.seq _ (.block _ (.seq _ (.cond _ _ (.seq _ (.cond _ y _))))))=>y
 | _=>.skip
theorem L14 {x1 x2 m:Int}{t1 t2:TypeId}:AEx ⟨C,⟨13,[]⟩,2,Nh,Ad⟩ Dt (fun t=>match t with | 0=>.ref 0 0 | 1=>.ref 1 0 | 10=>.agg [.d (.int .i64 m)] | _=>.junk) [.row [.d (.int .i64 x1)] t1,.row [.d (.int .i64 x2)] t2]
  (fun x _ h=>x = .normal∧h=[.row [.d (.int .i64 m)] t1,.row [.d (.int .i64 6)] t2,.row [.d (.int .i64 m)] 43]):=by
 unfold Dt
 refine s' rfl rfl (F0.n hC rfl (F0.s hC rfl (n' ?_)))
 refine P' 2 rfl (F0.s hC rfl (F0.s hC rfl (n' ⟨rfl,rfl⟩)))
theorem T18 (m:Int)(w:World):(Instr.typeAssert (.iface 43 (.agg #[.int .i64 m])) 20 43 true).run Tryd.prog w = .ok (.tuple #[.agg #[.int .i64 m],.bool true]) w:=by kernel_rfl
theorem M14 {M:Mem}{G:Nat→Value}{w:World}{x1 x2 m:Int}{t1 t2:TypeId}{va vb:Value}(hm:InK .i64 m)(hg:Am.Good M w)(hgl:Dg C M w)(hh:B6 M G w [.row [.d (.int .i64 x1)] t1,.row [.d (.int .i64 x2)] t2])(ra:N0 M G (.ref 0 0) va)(rb:N0 M G (.ref 1 0) vb)(a:Act)(h0:a.tmps.size=13)(hd:a.defers=[])
  (e0:a.tmps.getD 0 undef=va) (e1:a.tmps.getD 1 undef=vb) (e2:a.tmps.getD 10 undef = .agg #[.int .i64 m]) {Q:Exit→Act→World→Prop}
  (hQ:∀ a' w' v,a'.defers=[]→(results Tryd.f13 a'.tmps).run Tryd.prog w' = .ok v w'→Ce M G w [.row [.d (.int .i64 x1)] t1,.row [.d (.int .i64 x2)] t2] (fun _ h=>h=[.row [.d (.int .i64 m)] t1,.row [.d (.int .i64 6)] t2]) (.returned v) w'→Q .normal a' w'):Dt.wp Tryd.prog Q a w:=by
 have hs:St C ⟨13,[]⟩ M G w (fun t=>match t with | 0=>.ref 0 0 | 1=>.ref 1 0 | 10=>.agg [.d (.int .i64 m)] | _=>.junk) [.row [.d (.int .i64 x1)] t1,.row [.d (.int .i64 x2)] t2] a:=by
  refine ⟨hg,hgl,hh,fun t=>?_,h0,hd⟩
  split
  ·rw [e0]; exact ra
  ·rw [e1]; exact rb
  ·rw [e2]
   refine .agg rfl (fun i v hv=>?_) fun i x v hx hv=>?_
   ·match i,hv with
    | 0,hv=>cases hv; rfl
    | i+1,hv=>simp at hv
   ·match i,hx,hv with
    | 0,hx,hv=>cases hx; cases hv; exact .d (.int hm)
    | i+1,hx,_=>simp at hx
  ·exact .junk
 have hsi:O1 ⟨[.row [.d (.int .i64 x1)] t1,.row [.d (.int .i64 x2)] t2],G,M,w⟩ M G w [.row [.d (.int .i64 x1)] t1,.row [.d (.int .i64 x2)] t2]:=⟨Ext.refl _ _ _,fun b hb=>.inl hb,Nat.le_refl _,fun _ _ _ _=>rfl,fun o x y hx ht hy=>by rw [hx] at hy; exact Option.some.inj hy ▸ ht⟩
 refine wp_mono (P:=C.P) (L14 (x1:=x1) (x2:=x2) (m:=m) (t1:=t1) (t2:=t2) ⟨_,G,M,w⟩ M G w _ rfl hs hsi) fun e a' w' he=>?_
 rcases he with ⟨x,env',H',M',G',rfl,⟨rfl,rfl⟩,hs',hsi'⟩ | ⟨_,_,_,_,_,_,h,_⟩ | ⟨_,h⟩
 ·obtain ⟨v,h1,h2⟩:=Yh (F:=⟨C,⟨13,[]⟩,2,Nh,Ad⟩) (fn:=Tryd.f13) (Q:=fun _ h=>h=[.row [.d (.int .i64 m)] t1,.row [.d (.int .i64 6)] t2]) hC rfl hs' hsi' (x:=.normal) (by
   obtain ⟨r0,r,H2,k1,k2,k3,k4,k5,k6,k7⟩:=rn' (F:=⟨C,⟨13,[]⟩,2,Nh,Ad⟩) (rs:=Tryd.f13.results.toList) (x:=.tup []) (env:=env') (H:=[.row [.d (.int .i64 m)] t1,.row [.d (.int .i64 6)] t2,.row [.d (.int .i64 m)] 43]) (H':=[.row [.d (.int .i64 m)] t1,.row [.d (.int .i64 6)] t2]) rfl rfl rfl
   exact ⟨r0,r,H2,k1,k2,k3,k4,k5,k6⟩)
  exact hQ a' w' v hs'.defers h1 h2
 ·exact h.elim
 ·exact h.elim
theorem N14 (x1:Int)(t1:TypeId)(x2:Int)(t2:TypeId)(m:Int)(hm:InK .i64 m):W16 C 13 [.ref 0 0,.ref 1 0] [.row [.d (.int .i64 x1)] t1,.row [.d (.int .i64 x2)] t2] (.panicking [{ v:=V4 m,recovered:=false }]) (.panicking [{ v:=V4 m,recovered:=true }]) [.row [.d (.int .i64 m)] t1,.row [.d (.int .i64 6)] t2]:=by
 refine ⟨Xp Tryd.func13 rfl rfl,fun M G w vs hg hgl hh hl hr=>?_⟩
 have hb:Tryd.f13.body=some (.seq _ (.block 0 (.seq _ (.cond (.tmp 7) _ (.seq _ (.cond (.tmp 9) Dt _)))))):=rfl
 obtain ⟨va,vb,rfl⟩:∃ va vb,vs = #[va,vb]:=by
  refine ⟨vs[0]!,vs[1]!,?_⟩
  apply Array.ext
  ·rw [← hl]; rfl
  ·intro i h1 h2
   match i,h2 with
   | 0,_=>simp [← hl]
   | 1,_=>simp [← hl]
 have ra:=hr 0 _ va rfl rfl
 have rb:=hr 1 _ vb rfl rfl
 refine callsD_of_wpS (P:=Tryd.prog) Tryd.func13 hb fun c₀ cs hu=>?_
 apply wpS_seq
 apply wpS_region
 simp [wpOpsS,go_sem,recoverD,hu,Tryd.ntmps13,Exit.thenS]
 refine wpS_of_wp ?_
 unfold V4
 go_wp2
 simp [Oper.upon,T18]
 go_wp2
 refine M14 hm hg hgl hh ra rb _ ?_ rfl ?_ ?_ ?_ fun a' w' v k1 k2 k3=>⟨k1,_,rfl,v,k2,rfl,k3⟩
 ·simp
 ·simp
 ·simp
 ·simp
def Sh (s:Str)(c:Int):Option Int:=some (Lib.indexByte s c.toNat.toUInt8)
theorem Xo (c:UInt8):∀ l:List UInt8,Lib.indexByte l c≤l.length
 | []=>by simp [Lib.indexByte]
 | b::l=>by
  have:=Xo c l
  simp only [Lib.indexByte,List.length_cons]
  split
  ·omega
  ·split <;> omega
theorem Lu {s:Str}{c:Int}{res:Int}(hh:Sh s c=some res):S0 C 42 [.d (.str s),.d (.int .u8 c)] [] (fun x H'=>H'=[]∧x = .d (.int .i64 res)):=by
 cases hh
 refine S0.ofBelow (Xp Tryd.func42 rfl rfl) fun M G w vs hg hgl hl hr=>?_
 obtain ⟨h0,hm⟩:=Ln hl hr (i:=0) rfl
 obtain ⟨h1,_⟩:=P15 hl hr (i:=1) rfl
 obtain rfl:=N18 hl.symm h0 h1
 refine ⟨.int .i64 (Lib.indexByte s c.toNat.toUInt8),fun _ _=>.d (.int ?_),(Tryd.strings_IndexByte ⟨s.toArray⟩ c w).mono ?_⟩
 ·have h1:=Xo c.toNat.toUInt8 s
  have h2:=Lib.indexByte_ge s c.toNat.toUInt8
  unfold maxLen at hm
  rw [Np]
  omega
 ·rintro e w' ⟨he,rfl⟩
  exact ⟨by simpa using he,.refl _ _⟩
def Jm (s:Str):Option Int:=if decide (s.length≤18)=true then Lib.atoi s else none
theorem Et:∀ (l:List UInt8) (a n k:Nat),Lib.decFrom a l=some n→a < 10 ^ k→n < 10 ^ (k+l.length)
 | [],a,n,k,h,ha=>by cases h; simpa using ha
 | b::l,a,n,k,h,ha=>by
  unfold Lib.decFrom at h
  cases hd:Lib.digitVal b with
  | none=>rw [hd] at h; cases h
  | some d=>
   rw [hd] at h
   have hd9:d < 10:=by
    unfold Lib.digitVal at hd
    split at hd
    ·cases hd; omega
    ·cases hd
   have:=Et l _ n (k+1) h (by rw [Nat.pow_succ]; omega)
   rw [List.length_cons,show k+(l.length+1)=k+1+l.length by omega]
   exact this
theorem O14 {s:Str}{res:Int}(hh:Jm s=some res):S0 C 64 [.d (.str s)] [] (fun x H'=>H'=[]∧x = .tup [.d (.int .i64 res),.d (.nilv .iface)]):=by
 obtain ⟨hs,hh⟩:=Ac hh
 refine S0.ofBelow (Xp Tryd.func64 rfl rfl) fun M G w vs hg hgl hl hr=>?_
 obtain ⟨h0,_⟩:=Ln hl hr (i:=0) rfl
 obtain rfl:=D1a hl.symm h0
 have hb : -1000000000000000000 < res∧res < 1000000000000000000:=by
  have p18:∀ (l:List UInt8) (n:Nat),l.length≤18→Lib.decNat l=some n→n < 1000000000000000000:=fun l n h1 h2=>by
   unfold Lib.decNat at h2
   cases l with
   | nil=>cases h2
   | cons b l=>
    have:=Et (b::l) 0 n 0 h2 (by decide)
    have h3:10 ^ (0+(b::l).length)≤10 ^ 18:=Nat.pow_le_pow_right (by decide) (by omega)
    omega
  cases s with
  | nil=>cases hh
  | cons b r=>
   have hl1:r.length≤18:=by simp only [List.length_cons] at hs; omega
   unfold Lib.atoi at hh
   simp only at hh
   split at hh
   ·cases hd:Lib.decNat r with
    | none=>rw [hd] at hh; cases hh
    | some n=>rw [hd] at hh; cases hh; have:=p18 r n hl1 hd; simp only; omega
   ·split at hh
    ·cases hd:Lib.decNat r with
     | none=>rw [hd] at hh; cases hh
     | some n=>rw [hd] at hh; cases hh; have:=p18 r n hl1 hd; simp only; omega
    ·cases hd:Lib.decNat (b::r) with
     | none=>rw [hd] at hh; cases hh
     | some n=>rw [hd] at hh; cases hh; have:=p18 _ n hs hd; simp only; omega
 refine ⟨.tuple #[.int .i64 res,.nilIface],fun _ _=>.tup rfl fun i x v hx hv=>?_,(Tryd.strconv_Atoi ⟨s.toArray⟩ res (by rw [Xl]; exact hs) hh w).mono ?_⟩
 ·match i,hx,hv with
  | 0,hx,hv=>cases hx; cases hv; exact .d (.int (by rw [Np]; omega))
  | 1,hx,hv=>cases hx; cases hv; exact .d .niliface
  | i+2,hx,_=>simp at hx
 ·rintro e w' ⟨he,t,rfl⟩
  exact ⟨he,Joins.below_bytesWorld _ _ _ _ (Nat.le_refl _)⟩
end Go.Proofs.YtmnhfbekncjnfaaDoor

