/- Part 4 of the ground of this proof: what its texts say of the model, the program and the plain data; conditions: those that are named. -/
import Derived.Test.YthlpimbhonihhaaRows
import Derived.Test.YthlpimbhonihhaaR03
set_option maxRecDepth 100000
set_option maxHeartbeats 80000000
namespace Go.Proofs.Ythlpimbhonihhaa
open Go Go.CF Go.ChangeShapes Go.WideShapes Go.ChangeAt Go.RowKit

theorem knob : ownKnob Try.prog.godebug=none:=by kernel_rfl
theorem laid : laidOutB Try.prog=true:=by kernel_rfl
theorem sliceArg{W:World}{r:Reach}{b:Nat}{t e:TypeId}{v:Value}{α:Type}{R:Rp α}{l:List α}(ht:Try.prog.underlying t=some (.slice e))(hv:Value.okWide Try.prog W r b t v)(h:R.slice.R W.heap (Old W.heap) v.cells.toList l) : R.slice.R W.heap (Old W.heap) [v] l:=by
 rw [CF.okWide_slice ht hv] at h;exact h
theorem rdU16 : RdT Try.prog 60 (Rp.int .u16):=RdT.int Try.underlying60 (by kernel_rfl)
theorem rdWords : RdT Try.prog 57 (Rp.int .u16).slice:=RdT.slice Try.underlying57 (by kernel_rfl) rdU16 (by decide)
theorem Avr.u16 : Avr (Rp.int .u16) fun x=> [.val (.int .u16 x)]:=⟨by rintro _ _ _ _ ⟨rfl,_⟩;exact⟨⟨rfl,trivial⟩,fun u hu=>by rw [zH.1 hu];rfl⟩⟩
theorem avWords : Avr (Rp.int .u16).slice fun l=> [.sl 1 l fun x=> [.val (.int .u16 x)]]:=Avr.u16.slice
theorem words_rng{h:Heap}{F:Nat→Prop}{cs:List Value}{l:List Int}(hr:(Rp.int .u16).slice.R h F cs l) :∀x∈l,0≤x∧x≤65535:=by
 intro x hx
 obtain⟨v,rfl,hb,hl,rows,hs,hlen,hrow⟩:=hr
 obtain⟨i,hi⟩:=List.mem_iff_getElem?.1 hx
 obtain⟨row,hi2⟩:∃row,rows[i]?=some row:=⟨_,zE (by have:=(zS.1 hi).1;omega)⟩
 exact wf_u16.1 (hrow i row x hi2 hi).2
end Go.Proofs.Ythlpimbhonihhaa
