/- How messages and calls of package replog lie in an argument; condition: the argument is read. -/
import Derived.Test.YtdoefbnjehngmaaGk
namespace Go.Proofs.Ytdoefbnjehngmaa
open Go Go.CF
set_option maxRecDepth 20000

structure Msg.rg (m : Msg) : Prop where
  kind : rng m.kind
  frm : rng m.frm
  to : rng m.to
  term : rng m.term
  index : rng m.index
  logt : rng m.logt
  commit : rng m.commit
/-- A message; of the parts that nobody reads only that they are cells. -/
def Rp.msg : Rp (Msg × Zs) where
  sz := 18
  R := fun h F cs x => ∃ w, cs = msgV x.1 x.2 w ∧ x.2.ok ∧ ents.R h F [w] x.1.ents ∧ x.1.rg
  len := by rintro _ _ _ _ ⟨w, rfl, _⟩; rfl
  one := by
    rintro _ _ _ _ ⟨w, rfl, hz, hw, _⟩ u hu
    have := ents.one hw w (by simp)
    obtain ⟨o1, o2, o3, o4, o5, o6, o7, o8, o9⟩ := hz
    simp only [msgV, List.mem_cons, List.not_mem_nil, or_false] at hu
    rcases hu with rfl | rfl | rfl | rfl | rfl | rfl | rfl | rfl | rfl | rfl | rfl | rfl | rfl | rfl | rfl | rfl | rfl | rfl <;> first | rfl | assumption
  stp := fun x hn ⟨w, e, hz, hw, hg⟩ => ⟨w, e, hz, ents.stp x hn hw, hg⟩
  mono := fun hm ⟨w, e, hz, hw, hg⟩ => ⟨w, e, hz, ents.mono hm hw, hg⟩
  lt := fun ⟨w, e, hz, hw, hg⟩ => ⟨w, e, hz, ents.lt hw, hg⟩
def Rp.prioC : Rp (Value × Value × Value × Value × Unit) := Rp.cell.pair (Rp.cell.pair (Rp.cell.pair (Rp.cell.pair Rp.unit)))
def Rp.askC : Rp (Value × (Value × Value × Value × Value × Unit) × Value × Unit) := Rp.cell.pair (Rp.prioC.pair (Rp.cell.pair Rp.unit))
abbrev MsgT := Int × Int × Int × Value × Value × Value × (Value × (Value × Value × Value × Value × Unit) × Value × Unit) × Int × Int × Int × Int × Bool × List Ent × Unit
def Rp.msgT : Rp MsgT := (Rp.int .i64).pair ((Rp.int .i64).pair ((Rp.int .i64).pair (Rp.cell.pair (Rp.cell.pair (Rp.cell.pair (Rp.askC.pair ((Rp.int .i64).pair ((Rp.int .i64).pair ((Rp.int .i64).pair ((Rp.int .i64).pair (Rp.bool.pair (ents.pair Rp.unit))))))))))))
theorem rdIntC : RdT Try.prog 3 Rp.cell := RdT.intCell Try.underlying3 (by kernel_rfl)
theorem rdBool : RdT Try.prog 4 Rp.bool := RdT.bool Try.underlying4 (by kernel_rfl)
theorem rdIntsC : RdT Try.prog 37 Rp.cell := RdT.sliceCell Try.underlying37 (by kernel_rfl) (by kernel_rfl)
theorem rdEvsC : RdT Try.prog 40 Rp.cell := RdT.sliceCell Try.underlying40 (by kernel_rfl) (by kernel_rfl)
theorem rdSpansC : RdT Try.prog 41 Rp.cell := RdT.sliceCell Try.underlying41 (by kernel_rfl) (by kernel_rfl)
theorem rdNeedsC : RdT Try.prog 44 Rp.cell := RdT.sliceCell Try.underlying44 (by kernel_rfl) (by kernel_rfl)
theorem rdPrioC : RdT Try.prog 43 Rp.prioC := RdT.struct Try.underlying43 rfl (by kernel_rfl) (RdF.cons rfl rdIntC rfl (RdF.cons rfl rdIntC rfl (RdF.cons rfl rdIntC rfl (RdF.cons rfl rdIntC rfl RdF.nil))))
theorem rdAskC : RdT Try.prog 46 Rp.askC := RdT.struct Try.underlying46 rfl (by kernel_rfl) (RdF.cons rfl rdIntC rfl (RdF.cons rfl rdPrioC rfl (RdF.cons rfl rdNeedsC rfl RdF.nil)))
theorem rdMsgT : RdT Try.prog 48 Rp.msgT := RdT.struct Try.underlying48 rfl (by kernel_rfl)
  (RdF.cons rfl rdInt rfl (RdF.cons rfl rdInt rfl (RdF.cons rfl rdInt rfl (RdF.cons rfl rdIntsC rfl (RdF.cons rfl rdEvsC rfl (RdF.cons rfl rdSpansC rfl (RdF.cons rfl rdAskC rfl (RdF.cons rfl rdInt rfl (RdF.cons rfl rdInt rfl (RdF.cons rfl rdInt rfl (RdF.cons rfl rdInt rfl (RdF.cons rfl rdBool rfl (RdF.cons rfl rdEnts rfl RdF.nil)))))))))))))
theorem msgT_R {h : Heap} {F : Nat → Prop} {cs : List Value} {m : MsgT} (hr : Rp.msgT.R h F cs m) : ∃ x, Rp.msg.R h F cs x := by
  obtain ⟨kind, frm, to, e3, e4, e5, ⟨e6, ⟨e7, e8, e9, e10, _⟩, e11, _⟩, term, index, logt, commit, granted, l, _⟩ := m
  obtain ⟨c1, _, rfl, ⟨rfl, w1⟩, c2, _, rfl, ⟨rfl, w2⟩, c3, _, rfl, ⟨rfl, w3⟩, c4, _, rfl, ⟨rfl, o4⟩, c5, _, rfl, ⟨rfl, o5⟩, c6, _, rfl, ⟨rfl, o6⟩, c7, _, rfl, hk, c8, _, rfl, ⟨rfl, w8⟩, c9, _, rfl, ⟨rfl, w9⟩, c10, _, rfl, ⟨rfl, w10⟩, c11, _, rfl, ⟨rfl, w11⟩, c12, _, rfl, rfl, c13, _, rfl, hl, rfl⟩ := hr
  obtain ⟨d1, _, rfl, ⟨rfl, p1⟩, d2, _, rfl, hp, d3, _, rfl, ⟨rfl, p3⟩, rfl⟩ := hk
  obtain ⟨f1, _, rfl, ⟨rfl, q1⟩, f2, _, rfl, ⟨rfl, q2⟩, f3, _, rfl, ⟨rfl, q3⟩, f4, _, rfl, ⟨rfl, q4⟩, rfl⟩ := hp
  obtain ⟨w, rfl, h1⟩ := id hl
  exact ⟨(⟨kind, frm, to, term, index, logt, commit, granted, l⟩, ⟨e3, e4, e5, e6, e7, e8, e9, e10, e11⟩), w, rfl, ⟨o4, o5, o6, p1, q1, q2, q3, q4, p3⟩, hl, ⟨wf_i64.1 w1, wf_i64.1 w2, wf_i64.1 w3, wf_i64.1 w8, wf_i64.1 w9, wf_i64.1 w10, wf_i64.1 w11⟩⟩
theorem rdMsg : RdT Try.prog 48 Rp.msg := ⟨rdMsgT.sz, fun h => by obtain ⟨a, ha⟩ := rdMsgT.rd h; exact msgT_R ha⟩
theorem rdU8 : RdT Try.prog 5 (Rp.int .u8) := RdT.int Try.underlying5 (by kernel_rfl)
theorem rdU8s : RdT Try.prog 23 (Rp.int .u8).slice := RdT.slice Try.underlying23 (by kernel_rfl) rdU8 (by decide)
theorem msg_at {h : Heap} {F : Nat → Prop} {b o len cap : Nat} {l : List (Msg × Zs)} (hs : Rp.msg.slice.R h F [.slice (some ⟨b, o, none⟩) len cap] l) {i : Nat} {x : Msg × Zs} (hi : l[i]? = some x) :
    ∃ p cap, Cels h ⟨b, o + i * 18, none⟩ (msgV x.1 x.2 (.slice p x.1.ents.length cap)) ∧ x.2.ok ∧ ents.R h F [.slice p x.1.ents.length cap] x.1.ents ∧ x.1.rg := by
  obtain ⟨row, hr, hc⟩ := sliceR_cels hs hi
  obtain ⟨w, rfl, hz, hw, hg⟩ := hr
  obtain ⟨p, cap, e⟩ := sliceR_shape hw
  simp only [List.cons.injEq, and_true] at e
  subst e
  exact ⟨p, cap, hc, hz, hw, hg⟩
end Go.Proofs.Ytdoefbnjehngmaa
