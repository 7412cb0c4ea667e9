/- Part 6 of the ground of this proof: what its texts say of the model, the program and the plain data; conditions: those that are named. -/
import Derived.Test.YtajenkpjcbaadaaGreatD05
namespace Go.Proofs.YtajenkpjcbaadaaGreat
open Go Go.CF
set_option maxRecDepth 20000
theorem cells_o (m : ModS) (hm : LayOK m.sorts m.tables) : CallO Tryz.prog 126 [mdl m] 94 6 (mrgF m) tblC := by
 have hml := hm.2.2.1
 refine CallA.of pg ord126 Tryz.func126 rfl Tryz.ntmps126 Tryz.results126 rfl fun h0 G0 O0 => ?_
 repeat' (first|refine Sp.h ?_|refine Lk.r rfl ?_|refine Rf.mk rfl ?_|refine Im.mk fun _=>?_|refine All.mk fun _=>?_|refine xT ?_|fail)
 rename_i b1 _
 refine CA.nilOwn 3 94 6 tblC rfl fun v => ?_
 refine CA.loop (fun x : Nat × Value => ⟨[(1, pm b1), (3, .ow x.2), (10, tbls m.tables), (11, it (m.tables.length : Nat)), (12, it x.1)], [mR b1 m, arrR x.2 94 6 (mrgL m (m.tables.take x.1)) tblC]⟩) (fun x => x.1 ≤ m.tables.length) (fun x => m.tables.length - x.1) (0, v) xE (Nat.zero_le _) ?_
 rintro ⟨i, v⟩ hi
 simp only at hi
 simp only
 by_cases hin : i < m.tables.length
 ·obtain ⟨t, ht⟩ := get_of hin
  have hc := (hm.2.2.2 t (List.mem_of_getElem? ht)).1
  have h1 := sz_fit (m := m) hc
  have hn := mrgL_le hm i hi
  have hsu := mrgL_succ (m := m) ht
  by_cases hst : isStrict t.kind
  ·rw [if_pos hst, List.append_nil] at hsu
   unfold isStrict at hst
   repeat' (first|refine Sp.h ?_|refine Lk.r rfl ?_|refine Rf.mk rfl ?_|refine xA ?_|refine xB ?_|(refine Bd.mk ?_ ?_ <;> intro _)|refine All.mk fun _=>?_|refine xT ?_|refine xI ?_|refine Ch.l ⟨rfl, rfl⟩ ?_|(apply SetAsk.r;focus repeat' constructor)|refine xN ?_|refine xO ?_|fail)
   all_goals rw [← hsu]
   all_goals exact PA.lp (i + 1, v) xE ⟨hin, by simp only;omega⟩
  ·rw [if_neg hst] at hsu
   unfold isStrict at hst
   repeat' (first|refine Sp.h ?_|refine Lk.r rfl ?_|refine Rf.mk rfl ?_|refine xA ?_|refine xB ?_|refine Im.mk fun _=>?_|refine All.mk fun _=>?_|refine xT ?_|refine xI ?_|refine Ch.l ⟨rfl, rfl⟩ ?_|(apply SetAsk.r;focus repeat' constructor)|refine xN ?_|fail)
   rename_i b5 _
   refine CA.loop (fun k : Nat => ⟨[(1, pm b1), (3, .ow v), (5, pm b5), (6, it (prodF m.sorts (t.cols.take k))), (10, tbls m.tables), (11, it (m.tables.length : Nat)), (12, it i), (25, ints t.cols), (26, it (t.cols.length : Nat)), (27, it k)], [mR b1 m, arrR v 94 6 (mrgL m (m.tables.take i)) tblC, blkR b5 94 (tblC t)]⟩) (fun k => k ≤ t.cols.length) (fun k => t.cols.length - k) 0 xE (Nat.zero_le _) ?_
   intro k hk
   by_cases hkn : k < t.cols.length
   ·obtain ⟨x, hx⟩ := get_of hkn
    obtain ⟨j, rfl, y, hy, hy1, hy2⟩ := col_get hc hx
    have hb := prod_succ hx (show m.sorts[((j : Int)).toNat]? = some y by simpa using hy)
    have hp := prod_fit hc k
    have hp2 := prod_fit hc (k + 1)
    rw [hb] at hp2
    have hj := (List.getElem?_eq_some_iff.1 hy).1
    repeat' (first|refine Sp.h ?_|refine Lk.r rfl ?_|refine Rf.mk rfl ?_|refine xA ?_|refine xP ?_|refine xT ?_|refine xI ?_|refine xO ?_|fail)
    rw [← hb]
    exact PA.lp (k + 1) xE ⟨hkn, by omega⟩
   have hke : k = t.cols.length := by omega
   subst hke
   simp only [List.take_length]
   rw [h1.1]
   repeat' (first|refine Sp.h ?_|refine Lk.r rfl ?_|refine Rf.mk rfl ?_|refine xB ?_|fail)
   refine CA.loop (fun x : Nat × Value => ⟨[(1, pm b1), (3, .ow x.2), (5, pm b5), (10, tbls m.tables), (11, it (m.tables.length : Nat)), (12, it i), (39, it (szF m t : Nat)), (40, it x.1)], [mR b1 m, arrR x.2 94 6 (mrgL m (m.tables.take i) ++ List.replicate x.1 t) tblC, blkR b5 94 (tblC t)]⟩) (fun x => x.1 ≤ szF m t) (fun x => szF m t - x.1) (0, v) ?_ (Nat.zero_le _) ?_
   ·simp only [List.replicate_zero, List.append_nil]
    exact xE
   rintro ⟨q, v⟩ hq
   simp only at hq
   simp only
   by_cases hqn : q < szF m t
   ·repeat' (first|refine Sp.h ?_|refine Lk.r rfl ?_|refine Rf.mk rfl ?_|refine xA ?_|refine xP ?_|refine All.mk fun _=>?_|refine xU ?_|refine xT ?_|refine Ce.r ?_|refine Ch.l ⟨rfl, rfl⟩ ?_|(apply Fk.r;focus repeat' first|infer_instance|constructor)|refine Rf.mk ⟨rfl, rfl⟩ ?_|refine Rf.mk ⟨rfl, rfl, rfl⟩ ?_|(apply Mp.lit;(focus repeat (first|exact MpL.nil|(apply MpL.cons;(focus rfl))|(apply MpL.inv;(focus repeat constructor);(focus infer_instance)))))|refine xO ?_|fail)
    rw [List.append_assoc, show List.replicate q t ++ [t] = List.replicate (q + 1) t from List.replicate_succ'.symm]
    exact PA.lp (q + 1, _) xE ⟨hqn, by simp only;omega⟩
   have hqe : q = szF m t := by omega
   subst hqe
   rw [← hsu]
   repeat' (first|refine Sp.h ?_|refine Lk.r rfl ?_|refine Rf.mk rfl ?_|refine xB ?_|refine xO ?_|fail)
   exact PA.lp (i + 1, v) xE ⟨hin, by simp only;omega⟩
 have hie : i = m.tables.length := by omega
 subst hie
 simp only [List.take_length]
 repeat' (first|refine Sp.h ?_|refine Lk.r rfl ?_|refine Rf.mk rfl ?_|refine xB ?_|refine xN ?_|fail)
 exact ⟨_, _, .one (.same (.z)), _, rfl, rfl⟩
theorem cells_p (m : ModS) (hm : LayOK m.sorts m.tables) : CallP Tryz.prog 126 [mdl m] (tbls (mrgF m)) :=
 CallA.fz (by have := mrgF_le hm;omega) (cells_o m hm)
structure MkS where
 rep : Int
 num : Int
 time : Int
 val : Int
def mkC (x : MkS) : List AV := [it x.rep, it x.num, it x.time, it x.val]
structure MgS where
 put : Bool
 drop : Bool
 marks : List MkS
abbrev bl (b : Bool) : AV := .val (.bool b)
abbrev mks (l : List MkS) : AV := .sl 4 l mkC
def mgC (g : MgS) : List AV := [bl g.put, bl g.drop, mks g.marks]
abbrev mgs (l : List MgS) : AV := .sl 3 l mgC
def isReg (k : Int) : Prop := k = 4 ∨ k = 5
noncomputable instance (k : Int) : Decidable (isReg k) := Classical.propDecidable _
theorem register_p (t : TblS) : CallP Tryz.prog 131 [.agg (tblC t)] (bl (decide (isReg t.kind))) := by
 refine CallA.of pg ord131 Tryz.func131 rfl Tryz.ntmps131 Tryz.results131 rfl fun h0 G0 O0 => ?_
 repeat' (first|refine Sp.h ?_|refine Lk.r rfl ?_|refine Rf.mk rfl ?_|refine xA ?_|refine xB ?_|(refine Bd.mk ?_ ?_ <;> intro _)|refine All.mk fun _=>?_|refine xT ?_|refine xN ?_|fail)
 all_goals refine Fin.p rfl (vb ?_)
 all_goals first
  | exact decide_eq_decide.2 (by unfold isReg;omega)
  | exact (decide_eq_true (by unfold isReg;omega)).symm
theorem dot_p (x : MkS) : CallP Tryz.prog 199 [.agg (mkC x)] (dotC x.rep x.num) := by
 refine CallA.of pg ord199 Tryz.func199 rfl Tryz.ntmps199 Tryz.results199 rfl fun h0 G0 O0 => ?_
 repeat' (first|refine Sp.h ?_|refine Lk.r rfl ?_|refine Rf.mk rfl ?_|refine All.mk fun _=>?_|refine xT ?_|(apply SetAsk.r;focus repeat' constructor)|(apply Fk.r;focus repeat' first|infer_instance|constructor)|refine xN ?_|fail)
 exact Fin.p rfl rfl
noncomputable def lowT (t : TblS) : Int := if isReg t.kind then t.lo else 0
noncomputable def highT (t : TblS) : Int := if isReg t.kind then t.hi else 0
def RightK (t : TblS) (x : MkS) : Prop := (0 ≤ x.rep ∧ x.rep ≤ 4) ∧ (1 ≤ x.num ∧ x.num ≤ 1024) ∧ (1 ≤ x.time ∧ x.time ≤ 1073741824) ∧ lowT t ≤ x.val ∧ x.val ≤ highT t
noncomputable instance (t : TblS) (x : MkS) : Decidable (RightK t x) := Classical.propDecidable _
theorem right_p (t : TblS) (x : MkS) : CallP Tryz.prog 198 [.agg (tblC t), .agg (mkC x)] (bl (decide (RightK t x))) := by
 refine CallA.of pg ord198 Tryz.func198 rfl Tryz.ntmps198 Tryz.results198 rfl fun h0 G0 O0 => ?_
 by_cases hr : isReg t.kind
 ·have hlo : lowT t = t.lo := if_pos hr
  have hhi : highT t = t.hi := if_pos hr
  repeat' (first|refine Sp.h ?_|refine Lk.r rfl ?_|refine Rf.mk rfl ?_|refine xA ?_|refine xB ?_|(refine Bd.mk ?_ ?_ <;> intro _)|refine OpK.r rfl ?_|refine All.mk fun _=>?_|refine xT ?_|refine Ch.l ⟨rfl, rfl⟩ ?_|refine xN ?_|refine xD ?_|(apply Cl.p (register_p _);focus repeat' constructor))
  all_goals refine Fin.p rfl (vb ?_)
  all_goals first
   | exact decide_eq_decide.2 (by unfold RightK;omega)
   | exact (decide_eq_false (by unfold RightK;omega)).symm
 ·have hlo : lowT t = 0 := if_neg hr
  have hhi : highT t = 0 := if_neg hr
  repeat' (first|refine Sp.h ?_|refine Lk.r rfl ?_|refine Rf.mk rfl ?_|refine xA ?_|refine xB ?_|(refine Bd.mk ?_ ?_ <;> intro _)|refine All.mk fun _=>?_|refine xT ?_|refine Ch.l ⟨rfl, rfl⟩ ?_|refine xN ?_|(apply Cl.p (register_p _);focus repeat' constructor))
  all_goals refine Fin.p rfl (vb ?_)
  all_goals first
   | exact decide_eq_decide.2 (by unfold RightK;omega)
   | exact (decide_eq_false (by unfold RightK;omega)).symm
theorem isNaN_p (x : Int) : CallP Tryz.prog 98 [it x] (bl false) := by
 refine CallA.of pg ord98 Tryz.func98 rfl Tryz.ntmps98 Tryz.results98 rfl fun h0 G0 O0 => ?_
 repeat' (first|refine Sp.h ?_|refine Lk.r rfl ?_|refine Rf.mk rfl ?_|refine xN ?_|fail)
 exact Fin.p rfl (vb (by simp))
def cmpI (x y : Int) : Int := if x < y then -1 else if y < x then 1 else 0
theorem compareI_p (x y : Int) : CallP Tryz.prog 48 [it x, it y] (it (cmpI x y)) := by
 refine CallA.of pg ord48 Tryz.func48 rfl Tryz.ntmps48 Tryz.results48 rfl fun h0 G0 O0 => ?_
 repeat' (first|refine Sp.h ?_|refine Lk.r rfl ?_|refine Rf.mk rfl ?_|(refine Bd.mk ?_ ?_ <;> intro _)|refine xN ?_|(apply Cl.p (isNaN_p _);focus repeat' constructor))
 all_goals refine Fin.p rfl ?_
 all_goals unfold cmpI
 all_goals congr 2
 all_goals repeat' split
 all_goals omega
def orI (l : List Int) : Int := (l.find? (fun x => decide (x ≠ 0))).getD 0
theorem orI_p (l : List Int) : CallP Tryz.prog 47 [ints l] (it (orI l)) := by
 refine CallA.of pg ord47 Tryz.func47 rfl Tryz.ntmps47 Tryz.results47 rfl fun h0 G0 O0 => ?_
 repeat' (first|refine Sp.h ?_|refine Lk.r rfl ?_|refine Rf.mk rfl ?_|refine Im.mk fun _=>?_|fail)
 refine CA.loop (fun i : Nat => ⟨[(3, it 0), (6, ints l), (7, it (l.length : Nat)), (8, it i)], []⟩) (fun i => i ≤ l.length ∧ ∀ x ∈ l.take i, x = 0) (fun i => l.length - i) 0 xE ⟨Nat.zero_le _, by simp⟩ ?_
 rintro i ⟨hi, ha⟩
 by_cases hin : i < l.length
 ·obtain ⟨x, hx⟩ := get_of hin
  repeat' (first|refine Sp.h ?_|refine Lk.r rfl ?_|refine Rf.mk rfl ?_|refine xA ?_|(refine Bd.mk ?_ ?_ <;> intro _)|refine xI ?_|refine xN ?_|refine xO ?_|fail)
  ·exact PA.lp (i + 1) xE ⟨⟨hin, all_succ hx ha (by omega)⟩, by omega⟩
  ·rename_i h
   refine Fin.p rfl ?_
   have hf : l.find? (fun x => decide (x ≠ 0)) = some x := find_at hx (by simpa using h) fun j y hj hy => by
    have := ha y (List.mem_of_getElem? (i := j) (by rw [List.getElem?_take, if_pos hj];exact hy))
    simp [this]
   rw [orI, hf];rfl
 have hie : i = l.length := by omega
 subst hie
 rw [List.take_length] at ha
 repeat' (first|refine Sp.h ?_|refine Lk.r rfl ?_|refine Rf.mk rfl ?_|refine xB ?_|refine xN ?_|fail)
 refine Fin.p rfl ?_
 have hf : l.find? (fun x => decide (x ≠ 0)) = none := List.find?_eq_none.2 fun x hx => by simp [ha x hx]
 rw [orI, hf];rfl
def cmpK (a b : MkS) : Int := orI [cmpI a.time b.time, cmpI a.rep b.rep, cmpI a.num b.num]
theorem compareK_p (a b : MkS) : CallP Tryz.prog 200 [.agg (mkC a), .agg (mkC b)] (it (cmpK a b)) := by
 refine CallA.of pg ord200 Tryz.func200 rfl Tryz.ntmps200 Tryz.results200 rfl fun h0 G0 O0 => ?_
 repeat' (first|refine Sp.h ?_|refine Lk.r rfl ?_|refine Rf.mk rfl ?_|refine OpK.r rfl ?_|refine All.mk fun _=>?_|refine xT ?_|(apply Fk.r;focus repeat' first|infer_instance|constructor)|refine Rf.mk ⟨rfl, rfl, rfl⟩ ?_|refine xD ?_|(apply Cl.p (compareI_p _ _);focus repeat' constructor))
 have h := orI_p [cmpI a.time b.time, cmpI a.rep b.rep, cmpI a.num b.num]
 (apply Cl.lend (h);(focus repeat' (first|exact Lend.nil|(apply Lend.lendm;(focus repeat constructor);(focus rfl);(focus first|omega|decide|(simp;omega)|exact Nat.le_of_ble_eq_true rfl))|fail)))
 repeat' (first|refine Sp.h ?_|refine Lk.r rfl ?_|refine OpK.r rfl ?_|refine xN ?_|fail)
 exact Fin.p rfl rfl
def LtK (a b : MkS) : Prop := a.time < b.time ∨ a.time = b.time ∧ (a.rep < b.rep ∨ a.rep = b.rep ∧ a.num < b.num)
noncomputable instance (a b : MkS) : Decidable (LtK a b) := Classical.propDecidable _
theorem cmpK_neg {a b : MkS} : cmpK a b < 0 ↔ LtK a b := by
 unfold cmpK orI LtK cmpI
 by_cases h1 : a.time < b.time
 ·simp [h1]
 by_cases h2 : b.time < a.time
 ·simp [h1, h2];omega
 have h3 : a.time = b.time := by omega
 by_cases h4 : a.rep < b.rep
 ·simp [h3, h4]
 by_cases h5 : b.rep < a.rep
 ·simp [h3, h4, h5];omega
 have h6 : a.rep = b.rep := by omega
 by_cases h7 : a.num < b.num
 ·simp [h3, h6, h7]
 by_cases h8 : b.num < a.num
 ·simp [h3, h6, h7, h8]
 ·simp [h3, h6, h7, h8]
theorem cmpK_pos {a b : MkS} : 0 < cmpK a b ↔ LtK b a := by
 unfold cmpK orI LtK cmpI
 by_cases h1 : a.time < b.time
 ·simp [h1];omega
 by_cases h2 : b.time < a.time
 ·simp [h1, h2]
 have h3 : a.time = b.time := by omega
 by_cases h4 : a.rep < b.rep
 ·simp [h3, h4];omega
 by_cases h5 : b.rep < a.rep
 ·simp [h3, h4, h5]
 have h6 : a.rep = b.rep := by omega
 by_cases h7 : a.num < b.num
 ·simp [h3, h6, h7];omega
 by_cases h8 : b.num < a.num
 ·simp [h3, h6, h7, h8]
 ·simp [h3, h6, h7, h8]
end Go.Proofs.YtajenkpjcbaadaaGreat
namespace Go.Proofs.YtajenkpjcbaadaaGreat
open Go Go.CF
set_option maxRecDepth 20000
abbrev rI : Rp Int := Rp.int .i64
theorem rdStr : RdT Tryz.prog 9 Rp.str := RdT.str Tryz.underlying9 (by kernel_rfl)
theorem rdBool : RdT Tryz.prog 4 Rp.bool := RdT.bool Tryz.underlying4 (by kernel_rfl)
def Rp.rng : Rp (Int × Int × Unit) := rI.pair (rI.pair Rp.unit)
theorem rdRng : RdT Tryz.prog 92 Rp.rng := RdT.struct Tryz.underlying92 rfl (by kernel_rfl) (RdF.cons rfl rdInt rfl (RdF.cons rfl rdInt rfl RdF.nil))
def Rp.table : Rp TblS := (Rp.str.pair (rI.pair (rI.slice.pair (Rp.rng.pair (rI.pair Rp.unit))))).iso fun t : TblS => (t.name, t.kind, t.cols, (t.lo, t.hi, ()), t.first, ())
theorem rdTable : RdT Tryz.prog 94 Rp.table := RdT.iso (RdT.struct Tryz.underlying94 rfl (by kernel_rfl) (RdF.cons rfl rdStr rfl (RdF.cons rfl rdInt rfl (RdF.cons rfl rdInts rfl (RdF.cons rfl rdRng rfl (RdF.cons rfl rdInt rfl RdF.nil)))))) _ (fun x => ⟨x.1, x.2.1, x.2.2.1, x.2.2.2.1.1, x.2.2.2.1.2.1, x.2.2.2.2.1⟩) (fun _ => rfl)
theorem avTable : Avr Rp.table tblC := ((Avr.str.pair (Avr.int.pair (avInts.pair ((Avr.int.pair (Avr.int.pair Avr.unit)).pair (Avr.int.pair Avr.unit))))).iso _).cast fun _ => rfl
def Rp.term : Rp (Int × Int) := (rI.pair (rI.pair Rp.unit)).iso fun t : Int × Int => (t.1, t.2, ())
theorem avTerm : Avr Rp.term rngC := ((Avr.int.pair (Avr.int.pair Avr.unit)).iso _).cast fun _ => rfl
theorem rdTerm : RdT Tryz.prog 143 Rp.term := RdT.iso (RdT.struct Tryz.underlying143 rfl (by kernel_rfl) (RdF.cons rfl rdInt rfl (RdF.cons rfl rdInt rfl RdF.nil))) _ (fun x => (x.1, x.2.1)) (fun _ => rfl)
theorem rdChange : RdT Tryz.prog 88 Rp.term := RdT.iso (RdT.struct Tryz.underlying88 rfl (by kernel_rfl) (RdF.cons rfl rdInt rfl (RdF.cons rfl rdInt rfl RdF.nil))) _ (fun x => (x.1, x.2.1)) (fun _ => rfl)
def Rp.row : Rp RowS := (Rp.term.slice.pair (rI.pair Rp.unit)).iso fun r : RowS => (r.terms, r.bound, ())
theorem rdRow : RdT Tryz.prog 146 Rp.row := RdT.iso (RdT.struct Tryz.underlying146 rfl (by kernel_rfl) (RdF.cons rfl (RdT.slice Tryz.underlying144 (by kernel_rfl) rdTerm (by decide)) rfl (RdF.cons rfl rdInt rfl RdF.nil))) _ (fun x => ⟨x.1, x.2.1⟩) (fun _ => rfl)
theorem avRow : Avr Rp.row rowC := ((avTerm.slice.pair (Avr.int.pair Avr.unit)).iso _).cast fun _ => rfl
def Rp.cns : Rp CnsS := (rI.pair (rI.pair (Rp.row.pair (rI.pair (rI.pair Rp.unit))))).iso fun c : CnsS => (c.kind, c.family, c.row, c.first, c.size, ())
theorem rdCns : RdT Tryz.prog 148 Rp.cns := RdT.iso (RdT.struct Tryz.underlying148 rfl (by kernel_rfl) (RdF.cons rfl rdInt rfl (RdF.cons rfl rdInt rfl (RdF.cons rfl rdRow rfl (RdF.cons rfl rdInt rfl (RdF.cons rfl rdInt rfl RdF.nil)))))) _ (fun x => ⟨x.1, x.2.1, x.2.2.1, x.2.2.2.1, x.2.2.2.2.1⟩) (fun _ => rfl)
theorem avCns : Avr Rp.cns cnsC := ((Avr.int.pair (Avr.int.pair (avRow.pair (Avr.int.pair (Avr.int.pair Avr.unit))))).iso _).cast fun _ => rfl
def Rp.op : Rp OpS := (Rp.str.pair (Rp.bool.pair (rI.slice.pair Rp.unit))).iso fun o : OpS => (o.name, o.ordered, o.sorts, ())
theorem rdOp : RdT Tryz.prog 150 Rp.op := RdT.iso (RdT.struct Tryz.underlying150 rfl (by kernel_rfl) (RdF.cons rfl rdStr rfl (RdF.cons rfl rdBool rfl (RdF.cons rfl rdInts rfl RdF.nil)))) _ (fun x => ⟨x.1, x.2.1, x.2.2.1⟩) (fun _ => rfl)
theorem avOp : Avr Rp.op opC := ((Avr.str.pair (Avr.bool.pair (avInts.pair Avr.unit))).iso _).cast fun _ => rfl
def Rp.upd : Rp (Int × Int × Int) := (rI.pair (rI.pair (rI.pair Rp.unit))).iso fun u : Int × Int × Int => (u.1, u.2.1, u.2.2, ())
theorem rdUpd : RdT Tryz.prog 90 Rp.upd := RdT.iso (RdT.struct Tryz.underlying90 rfl (by kernel_rfl) (RdF.cons rfl rdInt rfl (RdF.cons rfl rdInt rfl (RdF.cons rfl rdInt rfl RdF.nil)))) _ (fun x => (x.1, x.2.1, x.2.2.1)) (fun _ => rfl)
theorem rdHide : RdT Tryz.prog 246 Rp.upd := RdT.iso (RdT.struct Tryz.underlying246 rfl (by kernel_rfl) (RdF.cons rfl rdInt rfl (RdF.cons rfl rdInt rfl (RdF.cons rfl rdInt rfl RdF.nil)))) _ (fun x => (x.1, x.2.1, x.2.2.1)) (fun _ => rfl)
theorem avUpd : Avr Rp.upd updC := ((Avr.int.pair (Avr.int.pair (Avr.int.pair Avr.unit))).iso _).cast fun _ => rfl
def Rp.eff : Rp EffS := (Rp.term.slice.pair (Rp.row.slice.pair (Rp.upd.slice.pair Rp.unit))).iso fun x : EffS => (x.delta, x.hold, x.updates, ())
theorem rdEff : RdT Tryz.prog 84 Rp.eff := RdT.iso (RdT.struct Tryz.underlying84 rfl (by kernel_rfl) (RdF.cons rfl (RdT.slice Tryz.underlying80 (by kernel_rfl) rdChange (by decide)) rfl (RdF.cons rfl (RdT.slice Tryz.underlying81 (by kernel_rfl) rdRow (by decide)) rfl (RdF.cons rfl (RdT.slice Tryz.underlying82 (by kernel_rfl) rdUpd (by decide)) rfl RdF.nil)))) _ (fun x => ⟨x.1, x.2.1, x.2.2.1⟩) (fun _ => rfl)
theorem avEff : Avr Rp.eff effC := ((avTerm.slice.pair (avRow.slice.pair (avUpd.slice.pair Avr.unit))).iso _).cast fun _ => rfl
def Rp.act : Rp ActS := (rI.pair (rI.slice.pair (Rp.eff.pair Rp.unit))).iso fun a : ActS => (a.op, a.args, a.eff, ())
theorem rdAct : RdT Tryz.prog 86 Rp.act := RdT.iso (RdT.struct Tryz.underlying86 rfl (by kernel_rfl) (RdF.cons rfl rdInt rfl (RdF.cons rfl rdInts rfl (RdF.cons rfl rdEff rfl RdF.nil)))) _ (fun x => ⟨x.1, x.2.1, x.2.2.1⟩) (fun _ => rfl)
theorem avAct : Avr Rp.act actC := ((Avr.int.pair (avInts.pair (avEff.pair Avr.unit))).iso _).cast fun _ => rfl
def Rp.model : Rp ModS := (rI.slice.pair (Rp.table.slice.pair (Rp.str.slice.pair (Rp.cns.slice.pair (Rp.op.slice.pair (Rp.act.slice.pair (Rp.upd.slice.pair Rp.unit))))))).iso fun m : ModS => (m.sorts, m.tables, m.families, m.cons, m.ops, m.acts, m.hides, ())
theorem rdModel : RdT Tryz.prog 30 Rp.model := RdT.iso (RdT.struct Tryz.underlying30 rfl (by kernel_rfl) (RdF.cons rfl rdInts rfl
 (RdF.cons rfl (RdT.slice Tryz.underlying23 (by kernel_rfl) rdTable (by decide)) rfl (RdF.cons rfl (RdT.slice Tryz.underlying24 (by kernel_rfl) rdStr (by decide)) rfl
 (RdF.cons rfl (RdT.slice Tryz.underlying25 (by kernel_rfl) rdCns (by decide)) rfl (RdF.cons rfl (RdT.slice Tryz.underlying26 (by kernel_rfl) rdOp (by decide)) rfl
 (RdF.cons rfl (RdT.slice Tryz.underlying27 (by kernel_rfl) rdAct (by decide)) rfl (RdF.cons rfl (RdT.slice Tryz.underlying28 (by kernel_rfl) rdHide (by decide)) rfl RdF.nil)))))))) _
 (fun x => ⟨x.1, x.2.1, x.2.2.1, x.2.2.2.1, x.2.2.2.2.1, x.2.2.2.2.2.1, x.2.2.2.2.2.2.1⟩) (fun _ => rfl)
theorem avModel : Avr Rp.model modC := ((avInts.pair (avTable.slice.pair (Avr.str.slice.pair (avCns.slice.pair (avOp.slice.pair (avAct.slice.pair (avUpd.slice.pair Avr.unit))))))).iso _).cast fun _ => rfl
end Go.Proofs.YtajenkpjcbaadaaGreat
namespace Go.Proofs.YtajenkpjcbaadaaGreat
open Go Go.CF Go.ChangeShapes Go.WideShapes Go.ChangeAt Go.RowKit
set_option maxRecDepth 100000
theorem aggArg {W : World} {r : Reach} {b : Nat} {t : TypeId} {v : Value} {fs : Array Field} (ht : Tryz.prog.underlying t = some (.struct fs)) (hv : Value.okWide Tryz.prog W r b t v) : v = .agg v.cells := by
 cases v with
 | agg c => rfl
 | _ => simp [Value.okWide, ht] at hv
end Go.Proofs.YtajenkpjcbaadaaGreat
