/- How events and calls of package stability lie in an argument; condition: the argument is read. -/
import Derived.Test.YtaopehadegknoaaEngH
import Derived.Test.YtaopehadegknoaaKn2
namespace Go.Proofs.Ytaopehadegknoaa
open Go Go.CF
set_option maxRecDepth 20000

theorem rdInt : RdT Try.prog 3 (Rp.int .i64) := RdT.int Try.underlying3 (by kernel_rfl)
theorem rdInts : RdT Try.prog 26 (Rp.int .i64).slice := RdT.slice Try.underlying26 (by kernel_rfl) rdInt (by decide)
theorem rdClks : RdT Try.prog 70 clks := RdT.slice Try.underlying70 (by kernel_rfl) rdInts (by decide)
abbrev RightT := Int × Int × Int × Unit
def Rp.rightT : Rp RightT := (Rp.int .i64).pair ((Rp.int .i64).pair ((Rp.int .i64).pair Rp.unit))
theorem rdRight : RdT Try.prog 74 Rp.rightT := RdT.struct Try.underlying74 rfl (by kernel_rfl) (RdF.cons rfl rdInt rfl (RdF.cons rfl rdInt rfl (RdF.cons rfl rdInt rfl RdF.nil)))
abbrev NeedT := RightT × Int × Unit
def Rp.needT : Rp NeedT := Rp.rightT.pair ((Rp.int .i64).pair Rp.unit)
theorem rdNeed : RdT Try.prog 76 Rp.needT := RdT.struct Try.underlying76 rfl (by kernel_rfl) (RdF.cons rfl rdRight rfl (RdF.cons rfl rdInt rfl RdF.nil))
abbrev EventT := Int × Int × Int × List Int × Int × Int × NeedT × Int × Int × Int × Unit
def Rp.eventT : Rp EventT := (Rp.int .i64).pair ((Rp.int .i64).pair ((Rp.int .i64).pair ((Rp.int .i64).slice.pair ((Rp.int .i64).pair ((Rp.int .i64).pair (Rp.needT.pair ((Rp.int .i64).pair ((Rp.int .i64).pair ((Rp.int .i64).pair Rp.unit)))))))))
theorem rdEvent : RdT Try.prog 78 Rp.eventT := RdT.struct Try.underlying78 rfl (by kernel_rfl)
  (RdF.cons rfl rdInt rfl (RdF.cons rfl rdInt rfl (RdF.cons rfl rdInt rfl (RdF.cons rfl rdInts rfl (RdF.cons rfl rdInt rfl (RdF.cons rfl rdInt rfl (RdF.cons rfl rdNeed rfl (RdF.cons rfl rdInt rfl (RdF.cons rfl rdInt rfl (RdF.cons rfl rdInt rfl RdF.nil))))))))))
def evOf : EventT → EvS
  | (rep, num, time, past, kind, action, ((gk, gi, ge, ()), ga, ()), to, place, serial, ()) =>
    { rep := rep, num := num, time := time, past := past, kind := kind, action := action, gk := gk, gi := gi, ge := ge, ga := ga, to := to, place := place, serial := serial }
def evIn (e : EvS) : EventT := (e.rep, e.num, e.time, e.past, e.kind, e.action, ((e.gk, e.gi, e.ge, ()), e.ga, ()), e.to, e.place, e.serial, ())
/-- An event that is read. -/
def Rp.event : Rp EvS := Rp.eventT.iso evIn
theorem rdEv : RdT Try.prog 78 Rp.event := RdT.iso rdEvent evIn evOf (fun _ => rfl)
/-- The numbers of an event are those of a machine. -/
def rng (x : Int) : Prop := -9223372036854775808 ≤ x ∧ x ≤ 9223372036854775807
structure EvS.ok (e : EvS) : Prop where
  rep : rng e.rep
  num : rng e.num
  time : rng e.time
  kind : rng e.kind
theorem evR {h : Heap} {F : Nat → Prop} {cs : List Value} {e : EvS} (hr : Rp.event.R h F cs e) : ∃ pv, cs = evV e pv ∧ CkV h pv e.past ∧ (∀ b ∈ rdOf pv, F b) ∧ e.ok := by
  obtain ⟨c1, _, rfl, ⟨rfl, w1⟩, c2, _, rfl, ⟨rfl, w2⟩, c3, _, rfl, ⟨rfl, w3⟩, c4, _, rfl, hp, c5, _, rfl, ⟨rfl, w5⟩, c6, _, rfl, ⟨rfl, w6⟩, c7, _, rfl, hn, c8, _, rfl, ⟨rfl, _⟩, c9, _, rfl, ⟨rfl, _⟩, c10, _, rfl, ⟨rfl, _⟩, rfl⟩ := hr
  obtain ⟨d1, _, rfl, ⟨f1, _, rfl, ⟨rfl, _⟩, f2, _, rfl, ⟨rfl, _⟩, f3, _, rfl, ⟨rfl, _⟩, rfl⟩, d2, _, rfl, ⟨rfl, _⟩, rfl⟩ := hn
  obtain ⟨pv, rfl, h1, h2⟩ := CkV.ofR hp
  exact ⟨pv, rfl, h1, h2, wf_i64.1 w1, wf_i64.1 w2, wf_i64.1 w3, wf_i64.1 w5⟩

/-! ### Calls of package stability -/
structure KAct where
  kind : Int
  rep : Int
  clk : List Int
  ev : EvS
  rows : List (List Int)
abbrev KActT := Int × Int × List Int × EvS × List (List Int) × Unit
def Rp.kactT : Rp KActT := (Rp.int .i64).pair ((Rp.int .i64).pair ((Rp.int .i64).slice.pair (Rp.event.pair (clks.pair Rp.unit))))
def Rp.kact : Rp KAct := Rp.kactT.iso fun a => (a.kind, a.rep, a.clk, a.ev, a.rows, ())
theorem rdKact : RdT Try.prog 80 Rp.kact :=
  RdT.iso (RdT.struct (r := Rp.kactT) Try.underlying80 rfl (by kernel_rfl) (RdF.cons rfl rdInt rfl (RdF.cons rfl rdInt rfl (RdF.cons rfl rdInts rfl (RdF.cons rfl rdEv rfl (RdF.cons rfl rdClks rfl RdF.nil)))))) _ (fun x => ⟨x.1, x.2.1, x.2.2.1, x.2.2.2.1, x.2.2.2.2.1⟩) (fun _ => rfl)
theorem rdKacts : RdT Try.prog 65 Rp.kact.slice := RdT.slice Try.underlying65 (by kernel_rfl) rdKact (by decide)
def kactV (a : KAct) (cv pv rv : Value) : List Value := .int .i64 a.kind :: .int .i64 a.rep :: cv :: (evV a.ev pv ++ [rv])
theorem kactR {h : Heap} {F : Nat → Prop} {cs : List Value} {a : KAct} (hr : Rp.kact.R h F cs a) :
    ∃ cv pv rv, cs = kactV a cv pv rv ∧ CkV h cv a.clk ∧ CkV h pv a.ev.past ∧ clks.R h F [rv] a.rows ∧ rng a.kind ∧ rng a.rep ∧ a.ev.ok := by
  obtain ⟨c1, _, rfl, ⟨rfl, w1⟩, c2, _, rfl, ⟨rfl, w2⟩, c3, _, rfl, hc, c4, _, rfl, he, c5, _, rfl, hl, rfl⟩ := hr
  obtain ⟨cv, rfl, h1, h2⟩ := CkV.ofR hc
  obtain ⟨pv, rfl, h3, h4, h5⟩ := evR he
  obtain ⟨rv, rfl, hx⟩ := id hl
  exact ⟨cv, pv, rv, rfl, h1, h3, hl, wf_i64.1 w1, wf_i64.1 w2, h5⟩
end Go.Proofs.Ytaopehadegknoaa
