/- A part of the proof of SyntaxRename. -/
import Derived.Test.YtbmlpamppbcdeaaGreatDoorAmD
import Derived.Sort.OwnSorted
namespace Go.Am
open Go.Sort Go.Proofs
theorem G1p {P:Program}{fs:FuncId}(h:∀ (blk off cap:Nat) (ss:List (List UInt8)) (w:World),Holds encStr w blk off ss.toArray→blk < w.heap.size→ss.length < 4611686018427387904→Calls P fs #[.slice (some ⟨blk,off,none⟩) ss.length cap] w fun e w'=>
  e = .returned (.tuple #[])∧∃ n os,w'=grow (putRow encStr (Sort.ahead w n) blk off (ss.mergeSort fun x y=>decide (x≤y)).toArray) os):C1j P fs:=by
 intro blk cap ss w cur e hb hc hl
 have hlt:blk < w.heap.size:=(Array.getElem?_eq_some_iff.1 hb).1
 have htake:cur.toList.take ss.length=ss.map encStr:=by
  apply List.ext_getElem?
  intro j
  by_cases hj:j < ss.length
  ·rw [List.getElem?_take_of_lt hj,Array.getElem?_toList,hc j _ (List.getElem?_eq_getElem hj),List.getElem?_map,List.getElem?_eq_getElem hj]
   rfl
  ·rw [List.getElem?_take_eq_none (by omega),List.getElem?_eq_none (by simp; omega)]
 have hsz:ss.length≤cur.size:=by
  have:=congrArg List.length htake
  simp at this
  omega
 refine (h blk 0 cap ss w (holds_of_block hb htake) hlt hl).mono ?_
 rintro e' w' ⟨rfl,n,os,rfl⟩
 have hg:=grownBy_sorted (w:=w) (g:=blk) (n:=n) (os:=os) (ss.mergeSort fun x y=>decide (x≤y)).toArray
 refine ⟨rfl,hg.os,hg.output,hg.tape,hg.size,fun b hb hne=>hg.block b hb (fun h=>hne (Option.some.inj h)),fun j s hj=>?_⟩
 have hjl:=(List.getElem?_eq_some_iff.1 hj).1
 have hml:(ss.mergeSort fun x y=>decide (x≤y)).length=ss.length:=List.length_mergeSort _
 rw [Sn (heap_sorted _ hb),← Array.getElem?_toList]
 have:=take_putCells cur (ss.mergeSort fun x y=>decide (x≤y)) (by omega)
 have h2:((putCells encStr 0 (ss.mergeSort fun x y=>decide (x≤y)).toArray cur).toList.take (ss.mergeSort fun x y=>decide (x≤y)).length)[j]?=some (encStr s):=by rw [this,List.getElem?_map,hj]; rfl
 rw [List.getElem?_take_of_lt hjl] at h2
 exact h2
end Go.Am

