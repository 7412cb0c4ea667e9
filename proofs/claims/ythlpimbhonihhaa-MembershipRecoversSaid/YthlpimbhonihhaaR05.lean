/- Part 5 of the ground of this proof: what its texts say of the model, the program and the plain data; conditions: those that are named. -/
import Derived.Test.YthlpimbhonihhaaR04
set_option maxRecDepth 100000
set_option maxHeartbeats 80000000
namespace Go.Proofs.Ythlpimbhonihhaa
open Go Go.CF Go.ChangeShapes Go.WideShapes Go.ChangeAt Go.RowKit

theorem membershipRecovers_lift(os:Os)(started:os.Started)(H:Type)(enc:TypeId×Value→H)
  (walk:∀(h:Heap) (x0:Int) (v1:Value) (l1:(List Int)),(0≤x0∧x0≤255)→(Rp.int .u16).slice.R h (Old h) [v1] l1→CallsH Try.prog 5 #[.int .u8 x0,v1] h fun x h'=>x= .bool true∧Stp [] h h') :
  ReturnsInHanded {} Try.checked os 5 .any (Rows.membershipRecoversSpec.pre6 enc Try.prog Try.f5 Rows.membershipRecoversRow.domain false) (Rows.membershipRecoversSpec.post enc Try.prog Try.f5 false true false false):=by
 refine returnsInHanded_of_change (C:=Try.checked) knob started (by kernel_rfl) Try.func5
  (ChangeSpec.witness6 (enc:=enc) (C:=Try.checked) false ⟨#[],#[.int .u8 0, .slice none 0 0],[]⟩ 8 (by kernel_rfl) (by kernel_rfl) (by kernel_rfl) (by kernel_rfl)) ?_
 intro W base args ds gs before hval0 hW hcnd _
 have hW':=hW
 have hval:∀(j:Nat) t v,Try.f5.params[j]?=some t→args[j]?=some v→Value.okWide Try.prog W .any base t v:=hval0
 obtain⟨p,q,hA0,hV,rfl,hfz,hnd⟩:=hW
 have hA:DataW.TrodAll enc Try.prog W 0 (fun _=>true) true Try.f5.params.toList args.toList ds p:=hA0
 rw [Try.params5] at hA hval
 obtain⟨v0,vs0,d0,ds0,p0,q0,e0,rfl,h0,hA⟩:=CF.trodAll_cons hA
 obtain⟨v1,vs1,d1,ds1,p1,q1,rfl,rfl,h1,hA⟩:=CF.trodAll_cons hA
 obtain⟨rfl,rfl⟩:=CF.trodAll_end hA
 obtain rfl:args=#[v0,v1]:=Array.ext' e0
 obtain⟨x0,rfl,rfl,rfl,w0⟩:=open_int Try.underlying5 (hval 0 5 v0 rfl rfl) h0
 obtain⟨l1,hl1⟩:=rdWords.arg h1
 have hl1:=sliceArg Try.underlying57 (hval 1 57 v1 rfl rfl) hl1
 refine law_contract laid (tb:=4) (by rw [Try.params5];intro t ht;simp at ht;(repeat'(rcases ht with rfl|ht)) <;> exact⟨by kernel_rfl,of_decide_eq_true (by kernel_rfl)⟩) rfl (by rfl) Try.underlying4 rfl hW' ?_
 exact walk W.heap x0 v1 l1 (wf_u8.1 w0) hl1

theorem membershipRecovers_j1 : (Rows.membershipRecoversRow.inPlace == Try.pinned.checked.prog.inPlace 5)=true:=by kernel_rfl
theorem membershipRecovers_j2 : (Rows.membershipRecoversRow.unfollowed == Try.pinned.checked.prog.unfollowed 5)=true:=by kernel_rfl
theorem membershipRecovers_j3 : (Rows.membershipRecoversRow.recurses == Try.pinned.checked.prog.recurses 5)=true:=by kernel_rfl
theorem membershipRecovers_j4 : (Rows.membershipRecoversRow.named == Try.pinned.checked.prog.varsNamed 5)=true:=by kernel_rfl
theorem membershipRecovers_joined : joinedFacts Try.pinned.checked.prog 5 Try.f5 Rows.membershipRecoversSpec Rows.membershipRecoversRow=true:=by
 unfold joinedFacts
 rw [membershipRecovers_j1,membershipRecovers_j2,membershipRecovers_j3,membershipRecovers_j4]
 kernel_rfl

theorem membershipRecovers_of(walk:∀(h:Heap) (x0:Int) (v1:Value) (l1:(List Int)),(0≤x0∧x0≤255)→(Rp.int .u16).slice.R h (Old h) [v1] l1→CallsH Try.prog 5 #[.int .u8 x0,v1] h fun x h'=>x= .bool true∧Stp [] h h') :
  Rows.MembershipRecoversSaid :=
 OpenClaim.holds_of_wide (p:=Try.pinned) (s:=Rows.membershipRecoversSpec) (c:=Rows.membershipRecoversRow) 5 Try.f5 rfl rfl rfl rfl rfl rfl rfl ⟨rfl,rfl,rfl,rfl,rfl⟩ rfl rfl rfl rfl rfl (by kernel_rfl) Try.func5 membershipRecovers_joined
  (of_decide_eq_true (by kernel_rfl)) (by unfold Func.isWrapper;first|(rw [if_pos (by decide +kernel)];kernel_rfl)|(rw [if_neg (by decide +kernel)];exact⟨rfl,rfl⟩))
  (fun os started H enc _=>membershipRecovers_lift os started H enc walk)
end Go.Proofs.Ythlpimbhonihhaa
