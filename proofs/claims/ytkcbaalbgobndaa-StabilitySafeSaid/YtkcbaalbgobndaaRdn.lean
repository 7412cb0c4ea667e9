/- How lists of numbers and of events lie in an argument; condition: the argument is read. -/
import Derived.Test.YtkcbaalbgobndaaEngW
import Derived.Test.YtkcbaalbgobndaaNd
namespace Go.Proofs.Ytkcbaalbgobndaa
open Go Go.CF
set_option maxRecDepth 20000
theorem rdInt : RdT Try.prog 3 (Rp.int .i64) := RdT.int Try.underlying3 (by kernel_rfl)
theorem rdInts : RdT Try.prog 23 (Rp.int .i64).slice := RdT.slice Try.underlying23 (by kernel_rfl) rdInt (by decide)
abbrev RightT := Int × Int × Int × Unit
def Rp.rightT : Rp RightT := (Rp.int .i64).pair ((Rp.int .i64).pair ((Rp.int .i64).pair Rp.unit))
theorem rdRight : RdT Try.prog 38 Rp.rightT := RdT.struct Try.underlying38 rfl (by kernel_rfl) (RdF.cons rfl rdInt rfl (RdF.cons rfl rdInt rfl (RdF.cons rfl rdInt rfl RdF.nil)))
abbrev NeedT := RightT × Int × Unit
def Rp.needT : Rp NeedT := Rp.rightT.pair ((Rp.int .i64).pair Rp.unit)
theorem rdNeed : RdT Try.prog 40 Rp.needT := RdT.struct Try.underlying40 rfl (by kernel_rfl) (RdF.cons rfl rdRight rfl (RdF.cons rfl rdInt rfl RdF.nil))
abbrev EventT := Int × Int × Int × List Int × Int × Int × NeedT × Int × Int × Int × Unit
def Rp.eventT : Rp EventT := (Rp.int .i64).pair ((Rp.int .i64).pair ((Rp.int .i64).pair ((Rp.int .i64).slice.pair ((Rp.int .i64).pair ((Rp.int .i64).pair (Rp.needT.pair ((Rp.int .i64).pair ((Rp.int .i64).pair ((Rp.int .i64).pair Rp.unit)))))))))
theorem rdEvent : RdT Try.prog 42 Rp.eventT := RdT.struct Try.underlying42 rfl (by kernel_rfl)
  (RdF.cons rfl rdInt rfl (RdF.cons rfl rdInt rfl (RdF.cons rfl rdInt rfl (RdF.cons rfl rdInts rfl (RdF.cons rfl rdInt rfl (RdF.cons rfl rdInt rfl (RdF.cons rfl rdNeed rfl (RdF.cons rfl rdInt rfl (RdF.cons rfl rdInt rfl (RdF.cons rfl rdInt rfl RdF.nil))))))))))
def evOf : EventT → EvS
  | (rep, num, time, past, kind, action, ((gk, gi, ge, ()), ga, ()), to, place, serial, ()) =>
    { rep := rep, num := num, time := time, past := past, kind := kind, action := action, gk := gk, gi := gi, ge := ge, ga := ga, to := to, place := place, serial := serial }
def evIn (e : EvS) : EventT := (e.rep, e.num, e.time, e.past, e.kind, e.action, ((e.gk, e.gi, e.ge, ()), e.ga, ()), e.to, e.place, e.serial, ())
/-- An event that is read. -/
def Rp.event : Rp EvS := Rp.eventT.iso evIn
theorem rdEv : RdT Try.prog 42 Rp.event := RdT.iso rdEvent evIn evOf (fun _ => rfl)
theorem rdEvs : RdT Try.prog 22 Rp.event.slice := RdT.slice Try.underlying22 (by kernel_rfl) rdEv (by decide)
theorem avInts : Avr (Rp.int .i64).slice fun l => [ints l] := Avr.int.slice
theorem avEvent : Avr Rp.event evC :=
  ((Avr.int.pair (Avr.int.pair (Avr.int.pair (avInts.pair (Avr.int.pair (Avr.int.pair (((Avr.int.pair (Avr.int.pair (Avr.int.pair Avr.unit))).pair (Avr.int.pair Avr.unit)).pair (Avr.int.pair (Avr.int.pair (Avr.int.pair Avr.unit)))))))))).iso evIn).cast fun _ => rfl
theorem avEvs : Avr Rp.event.slice fun l => [evs l] := avEvent.slice
end Go.Proofs.Ytkcbaalbgobndaa
