/- Part 6 of the ground of this proof: what its texts say of the model, the program and the plain data; conditions: those that are named. -/
import Derived.Test.YtajenkpjcbaadaaGreatC05
namespace Go.Proofs.YtajenkpjcbaadaaGreat
open Go Go.CF
set_option maxRecDepth 20000
abbrev rI : Rp Int := Rp.int .i64
theorem rdStr : RdT Tryz.prog 9 Rp.str := RdT.str Tryz.underlying9 (by kernel_rfl)
theorem rdBool : RdT Tryz.prog 4 Rp.bool := RdT.bool Tryz.underlying4 (by kernel_rfl)
def Rp.rng : Rp (Int × Int × Unit) := rI.pair (rI.pair Rp.unit)
theorem rdRng : RdT Tryz.prog 92 Rp.rng := RdT.struct Tryz.underlying92 rfl (by kernel_rfl) (RdF.cons rfl rdInt rfl (RdF.cons rfl rdInt rfl RdF.nil))
def Rp.table : Rp TblS := (Rp.str.pair (rI.pair (rI.slice.pair (Rp.rng.pair (rI.pair Rp.unit))))).iso fun t : TblS => (t.name, t.kind, t.cols, (t.lo, t.hi, ()), t.first, ())
theorem rdTable : RdT Tryz.prog 94 Rp.table := RdT.iso (RdT.struct Tryz.underlying94 rfl (by kernel_rfl) (RdF.cons rfl rdStr rfl (RdF.cons rfl rdInt rfl (RdF.cons rfl rdInts rfl (RdF.cons rfl rdRng rfl (RdF.cons rfl rdInt rfl RdF.nil)))))) _ (fun x => ⟨x.1, x.2.1, x.2.2.1, x.2.2.2.1.1, x.2.2.2.1.2.1, x.2.2.2.2.1⟩) (fun _ => rfl)
theorem avTable : Avr Rp.table tblC := ((Avr.str.pair (Avr.int.pair (avInts.pair ((Avr.int.pair (Avr.int.pair Avr.unit)).pair (Avr.int.pair Avr.unit))))).iso _).cast fun _ => rfl
def Rp.term : Rp (Int × Int) := (rI.pair (rI.pair Rp.unit)).iso fun t : Int × Int => (t.1, t.2, ())
theorem avTerm : Avr Rp.term rngC := ((Avr.int.pair (Avr.int.pair Avr.unit)).iso _).cast fun _ => rfl
theorem rdTerm : RdT Tryz.prog 143 Rp.term := RdT.iso (RdT.struct Tryz.underlying143 rfl (by kernel_rfl) (RdF.cons rfl rdInt rfl (RdF.cons rfl rdInt rfl RdF.nil))) _ (fun x => (x.1, x.2.1)) (fun _ => rfl)
theorem rdChange : RdT Tryz.prog 88 Rp.term := RdT.iso (RdT.struct Tryz.underlying88 rfl (by kernel_rfl) (RdF.cons rfl rdInt rfl (RdF.cons rfl rdInt rfl RdF.nil))) _ (fun x => (x.1, x.2.1)) (fun _ => rfl)
def Rp.row : Rp RowS := (Rp.term.slice.pair (rI.pair Rp.unit)).iso fun r : RowS => (r.terms, r.bound, ())
theorem rdRow : RdT Tryz.prog 146 Rp.row := RdT.iso (RdT.struct Tryz.underlying146 rfl (by kernel_rfl) (RdF.cons rfl (RdT.slice Tryz.underlying144 (by kernel_rfl) rdTerm (by decide)) rfl (RdF.cons rfl rdInt rfl RdF.nil))) _ (fun x => ⟨x.1, x.2.1⟩) (fun _ => rfl)
theorem avRow : Avr Rp.row rowC := ((avTerm.slice.pair (Avr.int.pair Avr.unit)).iso _).cast fun _ => rfl
def Rp.cns : Rp CnsS := (rI.pair (rI.pair (Rp.row.pair (rI.pair (rI.pair Rp.unit))))).iso fun c : CnsS => (c.kind, c.family, c.row, c.first, c.size, ())
theorem rdCns : RdT Tryz.prog 148 Rp.cns := RdT.iso (RdT.struct Tryz.underlying148 rfl (by kernel_rfl) (RdF.cons rfl rdInt rfl (RdF.cons rfl rdInt rfl (RdF.cons rfl rdRow rfl (RdF.cons rfl rdInt rfl (RdF.cons rfl rdInt rfl RdF.nil)))))) _ (fun x => ⟨x.1, x.2.1, x.2.2.1, x.2.2.2.1, x.2.2.2.2.1⟩) (fun _ => rfl)
theorem avCns : Avr Rp.cns cnsC := ((Avr.int.pair (Avr.int.pair (avRow.pair (Avr.int.pair (Avr.int.pair Avr.unit))))).iso _).cast fun _ => rfl
def Rp.op : Rp OpS := (Rp.str.pair (Rp.bool.pair (rI.slice.pair Rp.unit))).iso fun o : OpS => (o.name, o.ordered, o.sorts, ())
theorem rdOp : RdT Tryz.prog 150 Rp.op := RdT.iso (RdT.struct Tryz.underlying150 rfl (by kernel_rfl) (RdF.cons rfl rdStr rfl (RdF.cons rfl rdBool rfl (RdF.cons rfl rdInts rfl RdF.nil)))) _ (fun x => ⟨x.1, x.2.1, x.2.2.1⟩) (fun _ => rfl)
theorem avOp : Avr Rp.op opC := ((Avr.str.pair (Avr.bool.pair (avInts.pair Avr.unit))).iso _).cast fun _ => rfl
def Rp.upd : Rp (Int × Int × Int) := (rI.pair (rI.pair (rI.pair Rp.unit))).iso fun u : Int × Int × Int => (u.1, u.2.1, u.2.2, ())
theorem rdUpd : RdT Tryz.prog 90 Rp.upd := RdT.iso (RdT.struct Tryz.underlying90 rfl (by kernel_rfl) (RdF.cons rfl rdInt rfl (RdF.cons rfl rdInt rfl (RdF.cons rfl rdInt rfl RdF.nil)))) _ (fun x => (x.1, x.2.1, x.2.2.1)) (fun _ => rfl)
theorem rdHide : RdT Tryz.prog 246 Rp.upd := RdT.iso (RdT.struct Tryz.underlying246 rfl (by kernel_rfl) (RdF.cons rfl rdInt rfl (RdF.cons rfl rdInt rfl (RdF.cons rfl rdInt rfl RdF.nil)))) _ (fun x => (x.1, x.2.1, x.2.2.1)) (fun _ => rfl)
theorem avUpd : Avr Rp.upd updC := ((Avr.int.pair (Avr.int.pair (Avr.int.pair Avr.unit))).iso _).cast fun _ => rfl
def Rp.eff : Rp EffS := (Rp.term.slice.pair (Rp.row.slice.pair (Rp.upd.slice.pair Rp.unit))).iso fun x : EffS => (x.delta, x.hold, x.updates, ())
theorem rdEff : RdT Tryz.prog 84 Rp.eff := RdT.iso (RdT.struct Tryz.underlying84 rfl (by kernel_rfl) (RdF.cons rfl (RdT.slice Tryz.underlying80 (by kernel_rfl) rdChange (by decide)) rfl (RdF.cons rfl (RdT.slice Tryz.underlying81 (by kernel_rfl) rdRow (by decide)) rfl (RdF.cons rfl (RdT.slice Tryz.underlying82 (by kernel_rfl) rdUpd (by decide)) rfl RdF.nil)))) _ (fun x => ⟨x.1, x.2.1, x.2.2.1⟩) (fun _ => rfl)
theorem avEff : Avr Rp.eff effC := ((avTerm.slice.pair (avRow.slice.pair (avUpd.slice.pair Avr.unit))).iso _).cast fun _ => rfl
def Rp.act : Rp ActS := (rI.pair (rI.slice.pair (Rp.eff.pair Rp.unit))).iso fun a : ActS => (a.op, a.args, a.eff, ())
theorem rdAct : RdT Tryz.prog 86 Rp.act := RdT.iso (RdT.struct Tryz.underlying86 rfl (by kernel_rfl) (RdF.cons rfl rdInt rfl (RdF.cons rfl rdInts rfl (RdF.cons rfl rdEff rfl RdF.nil)))) _ (fun x => ⟨x.1, x.2.1, x.2.2.1⟩) (fun _ => rfl)
theorem avAct : Avr Rp.act actC := ((Avr.int.pair (avInts.pair (avEff.pair Avr.unit))).iso _).cast fun _ => rfl
def Rp.model : Rp ModS := (rI.slice.pair (Rp.table.slice.pair (Rp.str.slice.pair (Rp.cns.slice.pair (Rp.op.slice.pair (Rp.act.slice.pair (Rp.upd.slice.pair Rp.unit))))))).iso fun m : ModS => (m.sorts, m.tables, m.families, m.cons, m.ops, m.acts, m.hides, ())
theorem rdModel : RdT Tryz.prog 30 Rp.model := RdT.iso (RdT.struct Tryz.underlying30 rfl (by kernel_rfl) (RdF.cons rfl rdInts rfl
 (RdF.cons rfl (RdT.slice Tryz.underlying23 (by kernel_rfl) rdTable (by decide)) rfl (RdF.cons rfl (RdT.slice Tryz.underlying24 (by kernel_rfl) rdStr (by decide)) rfl
 (RdF.cons rfl (RdT.slice Tryz.underlying25 (by kernel_rfl) rdCns (by decide)) rfl (RdF.cons rfl (RdT.slice Tryz.underlying26 (by kernel_rfl) rdOp (by decide)) rfl
 (RdF.cons rfl (RdT.slice Tryz.underlying27 (by kernel_rfl) rdAct (by decide)) rfl (RdF.cons rfl (RdT.slice Tryz.underlying28 (by kernel_rfl) rdHide (by decide)) rfl RdF.nil)))))))) _
 (fun x => ⟨x.1, x.2.1, x.2.2.1, x.2.2.2.1, x.2.2.2.2.1, x.2.2.2.2.2.1, x.2.2.2.2.2.2.1⟩) (fun _ => rfl)
theorem avModel : Avr Rp.model modC := ((avInts.pair (avTable.slice.pair (Avr.str.slice.pair (avCns.slice.pair (avOp.slice.pair (avAct.slice.pair (avUpd.slice.pair Avr.unit))))))).iso _).cast fun _ => rfl
end Go.Proofs.YtajenkpjcbaadaaGreat
namespace Go.Proofs.YtajenkpjcbaadaaGreat
open Go Go.CF Go.ChangeShapes Go.WideShapes Go.ChangeAt Go.RowKit
set_option maxRecDepth 100000
theorem aggArg {W : World} {r : Reach} {b : Nat} {t : TypeId} {v : Value} {fs : Array Field} (ht : Tryz.prog.underlying t = some (.struct fs)) (hv : Value.okWide Tryz.prog W r b t v) : v = .agg v.cells := by
 cases v with
 | agg c => rfl
 | _ => simp [Value.okWide, ht] at hv
end Go.Proofs.YtajenkpjcbaadaaGreat
