/- Part 9 of the ground of this proof: what its texts say of the model, the program and the plain data; conditions: those that are named. -/
import Derived.Test.YtmjllbjfkafhdaaGreatDoorP08
namespace Go.Proofs.YtmjllbjfkafhdaaGreatDoor
open Go Go.CF
set_option maxRecDepth 20000
instance {a b : AV} [ha : Flat a] [hb : Flat b] : Flat (.tup [a, b]) := ⟨by
 rintro h h' G G' v ⟨vs, rfl, hr⟩
 match vs, hr with
 | [x, y], ⟨h1, h2, _⟩ => exact ⟨[x, y], rfl, ha.h _ _ _ _ _ h1, hb.h _ _ _ _ _ h2, trivial⟩⟩
noncomputable def posK (l : List MkS) (x : MkS) : Nat := idxN (fun y => decide (¬ LtK y x)) l
def MonoK (l : List MkS) (x : MkS) : Prop := ∀ (i j : Nat) (a b : MkS), i ≤ j → l[i]? = some a → l[j]? = some b → LtK b x → LtK a x
theorem posK_of {l : List MkS} {x : MkS} {n : Nat} (hn : n ≤ l.length) (h1 : ∀ (q : Nat) y, q < n → l[q]? = some y → LtK y x) (h2 : ∀ (q : Nat) y, n ≤ q → l[q]? = some y → ¬ LtK y x) : posK l x = n := by
 by_cases hnl : n < l.length
 ·obtain ⟨y, hy⟩ := get_of hnl
  exact idxN_of hy (decide_eq_true (h2 n y (Nat.le_refl _) hy)) fun j z hj hz => decide_eq_false (fun h => h (h1 j z hj hz))
 ·have hne : n = l.length := by omega
  rw [hne]
  exact idxN_none fun y hy => by
   obtain ⟨j, hj⟩ := List.getElem?_of_mem hy
   exact decide_eq_false (fun h => h (h1 j y (by have := (List.getElem?_eq_some_iff.1 hj).1;omega) hj))
noncomputable def fndK (l : List MkS) (x : MkS) : Bool := decide (∃ y, l[posK l x]? = some y ∧ cmpK y x = 0)
theorem binK_p (l : List MkS) (x : MkS) (hm : MonoK l x) (hl : l.length ≤ 1000000) :
  CallP Tryz.prog 249 [mks l, mA x, .fn 246 []] (.tup [it (posK l x : Nat), bl (fndK l x)]) := by
 refine CallA.of pg ord249 Tryz.func249 rfl Tryz.ntmps249 Tryz.results249 rfl fun h0 G0 O0 => ?_
 repeat' (first|refine Sp.h ?_|refine Lk.r rfl ?_|refine Rf.mk rfl ?_|refine Im.mk fun _=>?_|refine All.mk fun _=>?_|fail)
 refine CA.loop (fun p : Nat × Nat => ⟨[(0, mks l), (2, .fn 246 []), (4, pm _), (8, it (l.length : Nat)), (9, it p.1), (10, it p.2)], [blkR _ 233 (mkC x)]⟩)
  (fun p => p.1 ≤ p.2 ∧ p.2 ≤ l.length ∧ (∀ (q : Nat) y, q < p.1 → l[q]? = some y → LtK y x) ∧ ∀ (q : Nat) y, p.2 ≤ q → l[q]? = some y → ¬ LtK y x) (fun p => p.2 - p.1) (0, l.length) xE
  ⟨Nat.zero_le _, Nat.le_refl _, fun q y h => absurd h (Nat.not_lt_zero q), fun q y h h' => by have := (List.getElem?_eq_some_iff.1 h').1;simp only at h;omega⟩ ?_
 rintro ⟨i, j⟩ ⟨h1, h2, h3, h4⟩
 simp only at h1 h2 h3 h4
 simp only
 by_cases hij : i < j
 ·obtain ⟨y, hy⟩ := get_of (l := l) (i := (i + j) / 2) (by omega)
  have hcm := cmpK_neg (a := y) (b := x)
  have e1 : ((i : Int) + (j : Int)) / 2 = (((i + j) / 2 : Nat) : Int) := by omega
  repeat' (first|refine Sp.h ?_|refine Lk.r rfl ?_|refine Rf.mk rfl ?_|refine xA ?_|(refine Bd.mk ?_ ?_ <;> intro _)|refine OpK.r rfl ?_|refine xT ?_|refine xI ?_|refine Ch.l ⟨rfl, rfl⟩ ?_|refine xD ?_|refine xO ?_|(apply Cvk.i64;(focus rfl);(focus omega))|(apply Cvk.u64;(focus rfl);(focus omega))|(apply Cl.p (compareK_p _ _);focus repeat' constructor))
  ·rename_i hlt
   have hyx := hcm.1 hlt
   exact PA.lp ((i + j) / 2 + 1, j) xE ⟨⟨by simp only;omega, h2, fun q z hq hz => hm q ((i + j) / 2) z y (by simp only at hq;omega) hz hy hyx, h4⟩, by simp only;omega⟩
  ·rename_i hlt
   have hyx : ¬ LtK y x := fun h => hlt (hcm.2 h)
   exact PA.lp (i, (i + j) / 2) xE ⟨⟨by simp only;omega, by simp only;omega, h3, fun q z hq hz h => hyx (hm ((i + j) / 2) q y z (by simp only at hq;omega) hy hz h)⟩, by simp only;omega⟩
 ·have hije : i = j := by omega
  subst hije
  have hpos := posK_of h2 h3 h4
  by_cases hin : i < l.length
  ·obtain ⟨y, hy⟩ := get_of hin
   repeat' (first|refine Sp.h ?_|refine Lk.r rfl ?_|refine Rf.mk rfl ?_|refine xA ?_|refine xB ?_|refine OpK.r rfl ?_|refine xT ?_|refine xI ?_|refine Ch.l ⟨rfl, rfl⟩ ?_|refine xN ?_|refine xD ?_|(apply Cl.p (compareK_p _ _);focus repeat' constructor))
   refine Fin.p rfl ?_
   rw [hpos]
   have : fndK l x = decide (cmpK y x = 0) := decide_eq_decide.2 (by rw [hpos, hy];simp)
   rw [this]
  ·repeat' (first|refine Sp.h ?_|refine Lk.r rfl ?_|refine Rf.mk rfl ?_|refine xB ?_|refine OpK.r rfl ?_|refine xN ?_|refine xD ?_|(apply Cl.p (compareK_p _ _);(focus repeat' (first|fail))))
   refine Fin.p rfl ?_
   rw [hpos]
   have : fndK l x = false := decide_eq_false (by rw [hpos];rintro ⟨y, hy, _⟩;have := (List.getElem?_eq_some_iff.1 hy).1;omega)
   rw [this]
end Go.Proofs.YtmjllbjfkafhdaaGreatDoor
namespace Go.Proofs.YtmjllbjfkafhdaaGreatDoor
open Go Go.CF
set_option maxRecDepth 20000
theorem insertV_b {β : Type} (w u : Value) (L : List (List Value)) (r : List Value) (r' : β) (g : β → List AV) (hr : g r' = valR r) (i : Nat) (hi : i ≤ L.length) (hl : L.length ≤ 1000000) :
  CallA Tryz.prog 250 [.ow w, it i, .ow u] [arrR w 233 4 L valR, arrR u 233 4 [r'] g] fun q own => ∃ w', q = .ow w' ∧ own = [arrR w' 233 4 (L.take i ++ r :: L.drop i) valR] := by
 refine ⟨fun h G Os vs h1 h2 => ?_⟩
 match Os, h2.own with
 | [O1, O2], ⟨k1, ⟨ho, rows, hw, hrr⟩, _⟩ =>
  exact (insertV_a w u L r i hi hl).run h G [O1, O2] vs h1 ⟨⟨k1, ⟨ho, rows, hw, hrr.map (by simp [hr])⟩, trivial⟩, h2.g, h2.g0, h2.o, h2.d, h2.fp⟩
def chC (kp : AV) (e : EvS) (m : MkS) : List AV := [kp, iv e.rep, iv e.num, iv e.time, ints e.past, iv e.kind, iv e.action, iv e.gk, iv e.gi, iv e.ge, iv e.ga, iv e.to, iv e.place, iv e.serial, it m.rep, it m.num, it m.time, it m.val]
noncomputable instance (x y : MkS) : Decidable (Nm x y) := Classical.propDecidable _
theorem add1_p (kp : AV) (e : EvS) (m x : MkS) : CallP Tryz.prog 248 [mA x, .ad (chC kp e m) 0] (bl (decide (Nm x m))) := by
 refine CallA.of pg ord248 Tryz.func248 rfl Tryz.ntmps248 Tryz.results248 rfl fun h0 G0 O0 => ?_
 repeat' (first|refine Sp.h ?_|refine Lk.r rfl ?_|refine Rf.mk rfl ?_|refine OpK.r rfl ?_|refine All.mk fun _=>?_|refine xT ?_|refine Ch.l ⟨rfl, rfl⟩ ?_|refine Ch.r ?_|refine xN ?_|refine xK ?_|(apply Kf.mk;(focus kernel_rfl))|refine xD ?_|(apply Cl.p (dot_p _);focus repeat' constructor))
 refine Fin.p rfl (vb (decide_eq_decide.2 ?_))
 unfold Nm
 simp
noncomputable def insK (l : List MkS) (x : MkS) : List MkS := l.take (posK l x) ++ x :: l.drop (posK l x)
noncomputable def addF (l : List MkS) (x : MkS) : Int × List MkS := if HasNm l x then (6, l) else if 1024 ≤ l.length then (8, l) else (0, insK l x)
theorem posK_le (l : List MkS) (x : MkS) : posK l x ≤ l.length := idxN_le _ l
theorem insK_map (l : List MkS) (x : MkS) : (insK l x).map mkV = (l.map mkV).take (posK l x) ++ mkV x :: (l.map mkV).drop (posK l x) := by
 simp [insK, List.map_take, List.map_drop]
theorem has_idx (l : List MkS) (m : MkS) : idxN (fun x => decide (Nm x m)) l < l.length ↔ HasNm l m := idxN_lt.trans (by simp [HasNm])
set_option maxHeartbeats 2000000 in
theorem add_a (v : Value) (i : Nat) (e : EvS) (m : MkS) (L : List MgE) (x : MgE) (hx : L[i]? = some x) (hm : MonoK x.marks m) (hl : x.marks.length ≤ 1024) :
  CallA Tryz.prog 207 [.agg (chC (.oe v 3 i 0) e m)] [arrR v 231 3 L mgeC, mgeR x] fun r own => ∃ w', r = it (addF x.marks m).1 ∧ own = [arrR v 231 3 (L.set i ⟨x.put, x.drop, w', (addF x.marks m).2⟩) mgeC, arrR w' 233 4 (addF x.marks m).2 mkC] := by
 have hcon := containsK_p (add1_p (.oe v 3 i 0) e m) rfl x.marks
 have hbin := binK_p x.marks m hm (by omega)
 have hsame : L.set i ⟨x.put, x.drop, x.w, x.marks⟩ = L := by
  have := (List.getElem?_eq_some_iff.1 hx)
  apply List.ext_getElem?
  intro j
  rw [List.getElem?_set]
  split
  ·rename_i hj;subst hj;rw [if_pos this.1, hx]
  ·rfl
 refine CallA.of pg ord207 Tryz.func207 rfl Tryz.ntmps207 Tryz.results207 rfl fun h0 G0 O0 => ?_
 repeat' (first|refine Sp.h ?_|refine Lk.r rfl ?_|refine Rf.mk rfl ?_|refine All.mk fun _=>?_|refine xU ?_|refine xT ?_|refine xJ ?_|fail)
 (apply Cl.lend (hcon);(focus repeat' (first|exact Lend.nil|apply Lend.keep|(apply Lend.lend;(focus repeat constructor);(focus first|omega|(simp;omega)))|(apply Lend.cell;(focus repeat constructor))|refine Lend.fn ?_ ?_|fail)))
 have hid := has_idx x.marks m
 by_cases hhas : HasNm x.marks m
 ·have h6 : addF x.marks m = (6, x.marks) := if_pos hhas
  have hlt := hid.2 hhas
  rw [h6]
  repeat' (first|refine Sp.h ?_|refine Lk.r rfl ?_|refine Rf.mk rfl ?_|refine xA ?_|refine xN ?_|fail)
  exact ⟨_, _, .one (.same (.z)), x.w, rfl, congrArg (fun z => [arrR v 231 3 z mgeC, mgeR x]) hsame.symm⟩
 ·have hlt : ¬ idxN (fun x => decide (Nm x m)) x.marks < x.marks.length := fun h => hhas (hid.1 h)
  by_cases hbig : 1024 ≤ x.marks.length
  ·have h8 : addF x.marks m = (8, x.marks) := by rw [addF, if_neg hhas, if_pos hbig]
   rw [h8]
   repeat' (first|refine Sp.h ?_|refine Lk.r rfl ?_|refine Rf.mk rfl ?_|refine xA ?_|refine xB ?_|refine xU ?_|refine xT ?_|refine xJ ?_|refine xN ?_|fail)
   exact ⟨_, _, .one (.same (.z)), x.w, rfl, congrArg (fun z => [arrR v 231 3 z mgeC, mgeR x]) hsame.symm⟩
  ·have h0 : addF x.marks m = (0, insK x.marks m) := by rw [addF, if_neg hhas, if_neg hbig]
   rw [h0]
   repeat' (first|refine Sp.h ?_|refine Lk.r rfl ?_|refine Rf.mk rfl ?_|refine xB ?_|refine OpK.r rfl ?_|refine xU ?_|refine xT ?_|refine xJ ?_|refine Ch.r ?_|refine xD ?_|fail)
   (apply Cl.lend (hbin);(focus repeat' (first|exact Lend.nil|apply Lend.keep|(apply Lend.lend;(focus repeat constructor);(focus first|omega|(simp;omega)))|fail)))
   (repeat' (first|(show CA _ _ (Code.region 6 _ _) _ _;apply Stopped.out)|refine Sp.h ?_|refine Lk.r rfl ?_|refine OpK.r rfl ?_|fail));any_goals apply Stopped.mk
   apply CA.retype (v := x.w) (m := x.marks.map mkV) (g := valR)
   focus (repeat constructor)
   focus exact mkV_map x.marks
   repeat' (first|refine Sp.h ?_|refine Lk.r rfl ?_|refine Rf.mk rfl ?_|refine OpK.r rfl ?_|refine All.mk fun _=>?_|refine xU ?_|refine xT ?_|refine xJ ?_|refine Ch.r ?_|(apply Fk.r;focus repeat' first|infer_instance|constructor)|refine Rf.mk ⟨rfl, rfl, rfl⟩ ?_|refine xD ?_|exact trivial|apply RA'.both|fail)
   all_goals
    rename_i u
    have hins := insertV_b x.w u (x.marks.map mkV) (mkV m) (mkC m) id rfl (posK x.marks m) (by rw [List.length_map];exact posK_le _ _) (by rw [List.length_map];omega)
    rw [← insK_map] at hins
    refine xW (hins) ?_
    rintro _ _ ⟨w', rfl, rfl⟩
    have inv : Inv mgeC [bl x.put, bl x.drop, .ow w'] ⟨x.put, x.drop, w', insK x.marks m⟩ := ⟨rfl⟩
    (repeat' (first|(show CA _ _ (Code.region 7 _ _) _ _;apply Stopped.out)|refine Sp.h ?_|refine Lk.r rfl ?_|refine Rf.mk rfl ?_|refine OpK.r rfl ?_|refine xU ?_|refine xT ?_|refine xJ ?_|refine xV ?_|(apply Up.inv;(focus repeat constructor);(focus infer_instance))|fail));any_goals apply Stopped.mk
    apply CA.retype (v := w') (m := insK x.marks m) (g := mkC)
    focus (repeat constructor)
    focus exact (mkV_map _).symm
    repeat' (first|refine Sp.h ?_|refine Lk.r rfl ?_|refine Rf.mk rfl ?_|refine xN ?_|fail)
    exact ⟨_, _, .one (.same (.z)), w', rfl, rfl⟩
end Go.Proofs.YtmjllbjfkafhdaaGreatDoor
namespace Go.Proofs.YtmjllbjfkafhdaaGreatDoor
open Go Go.CF
set_option maxRecDepth 20000
abbrev ChO (v : Value) (i : Nat) (L : List MgE) (p d : Bool) (l : List MkS) (own : List Res) : Prop := ∃ w', own = [arrR v 231 3 (L.set i ⟨p, d, w', l⟩) mgeC, arrR w' 233 4 l mkC]
noncomputable def fgK (past : List Int) (l : List MkS) : List MkS := l.filter fun x => !decide (HasC past x.rep x.num)
theorem forget1_p (kp : AV) (e : EvS) (m x : MkS) : CallP Tryz.prog 273 [mA x, .ad (chC kp e m) 0] (bl (decide (HasC e.past x.rep x.num))) := by
 refine CallA.of pg ord273 Tryz.func273 rfl Tryz.ntmps273 Tryz.results273 rfl fun h0 G0 O0 => ?_
 repeat' (first|refine Sp.h ?_|refine Lk.r rfl ?_|refine Rf.mk rfl ?_|refine OpK.r rfl ?_|refine All.mk fun _=>?_|refine xT ?_|refine Ch.l ⟨rfl, rfl⟩ ?_|refine xN ?_|refine xD ?_|(apply Cl.p (dot_p _);focus repeat' constructor)|(apply Cl.p (hasC_p _ _ _);focus repeat' constructor))
 exact Fin.p rfl rfl
theorem forget_a (v : Value) (i : Nat) (e : EvS) (m : MkS) (L : List MgE) (x : MgE) (hx : L[i]? = some x) (hl : x.marks.length ≤ 1024) :
  CallA Tryz.prog 251 [.agg (chC (.oe v 3 i 0) e m)] [arrR v 231 3 L mgeC, mgeR x] fun _ own => ChO v i L x.put x.drop (fgK e.past x.marks) own := by
 have hdel := deleteK_a (forget1_p (.oe v 3 i 0) e m) rfl x.w x.marks (by omega)
 refine CallA.of pg ord251 Tryz.func251 rfl Tryz.ntmps251 Tryz.results251 rfl fun h0 G0 O0 => ?_
 (repeat' (first|(show CA _ _ (Code.region 1 _ _) _ _;apply Stopped.out)|refine Sp.h ?_|refine Lk.r rfl ?_|refine Rf.mk rfl ?_|refine All.mk fun _=>?_|fail));any_goals apply Stopped.mk
 apply CA.freezeB 1
 focus rfl
 focus (repeat constructor)
 repeat' (first|refine Sp.h ?_|refine Lk.r rfl ?_|refine Rf.mk rfl ?_|refine OpK.r rfl ?_|refine xU ?_|refine xJ ?_|refine xD ?_|exact trivial|apply RA'.both|fail)
 all_goals
  refine xW (hdel) ?_
  rintro _ _ ⟨w', rfl, rfl⟩
  have inv : Inv mgeC [bl x.put, bl x.drop, .ow w'] ⟨x.put, x.drop, w', fgK e.past x.marks⟩ := ⟨rfl⟩
  repeat' (first|refine Sp.h ?_|refine Lk.r rfl ?_|refine Rf.mk rfl ?_|refine OpK.r rfl ?_|refine xU ?_|refine xJ ?_|refine xV ?_|refine xN ?_|(apply Up.inv;(focus repeat constructor);(focus infer_instance))|fail)
  exact ⟨_, _, .tup (.z), w', rfl⟩
theorem drop_a (v : Value) (i : Nat) (e : EvS) (m : MkS) (L : List MgE) (x : MgE) (hx : L[i]? = some x) (hl : x.marks.length ≤ 1024) :
  CallA Tryz.prog 208 [.agg (chC (.oe v 3 i 0) e m)] [arrR v 231 3 L mgeC, mgeR x] fun q own => q = it 0 ∧ ChO v i L false x.drop (fgK e.past x.marks) own := by
 have hi := (List.getElem?_eq_some_iff.1 hx).1
 have inv : Inv mgeC [bl false, bl x.drop, .ow x.w] ⟨false, x.drop, x.w, x.marks⟩ := ⟨rfl⟩
 have hf := forget_a v i e m (L.set i ⟨false, x.drop, x.w, x.marks⟩) ⟨false, x.drop, x.w, x.marks⟩ (by rw [List.getElem?_set, if_pos rfl, if_pos hi]) hl
 refine CallA.of pg ord208 Tryz.func208 rfl Tryz.ntmps208 Tryz.results208 rfl fun h0 G0 O0 => ?_
 repeat' (first|refine Sp.h ?_|refine Lk.r rfl ?_|refine Rf.mk rfl ?_|refine All.mk fun _=>?_|refine xU ?_|refine xT ?_|refine xJ ?_|refine Ch.l ⟨rfl, rfl⟩ ?_|refine xV ?_|(apply Up.inv;(focus repeat constructor);(focus infer_instance))|fail)
 refine xW (hf) ?_
 rintro _ _ ⟨w', rfl⟩
 rw [List.set_set]
 repeat' (first|refine Sp.h ?_|refine Lk.r rfl ?_|refine Rf.mk rfl ?_|refine xN ?_|fail)
 exact ⟨_, _, .one (.same (.z)), rfl, w', rfl⟩
theorem put_a (v : Value) (i : Nat) (e : EvS) (m : MkS) (L : List MgE) (x : MgE) (hx : L[i]? = some x) (hl : x.marks.length ≤ 1024) :
  CallA Tryz.prog 209 [.agg (chC (.oe v 3 i 0) e m)] [arrR v 231 3 L mgeC, mgeR x] fun q own => q = it 0 ∧ ChO v i L true false (fgK e.past x.marks) own := by
 have hi := (List.getElem?_eq_some_iff.1 hx).1
 have inv : Inv mgeC [bl true, bl x.drop, .ow x.w] ⟨true, x.drop, x.w, x.marks⟩ := ⟨rfl⟩
 have inv2 : Inv mgeC [bl true, bl false, .ow x.w] ⟨true, false, x.w, x.marks⟩ := ⟨rfl⟩
 have inv3 : Inv mgeC [bl x.put, bl false, .ow x.w] ⟨x.put, false, x.w, x.marks⟩ := ⟨rfl⟩
 have hf := forget_a v i e m (L.set i ⟨true, false, x.w, x.marks⟩) ⟨true, false, x.w, x.marks⟩ (by rw [List.getElem?_set, if_pos rfl, if_pos hi]) hl
 have hx1 : ∀ y : MgE, (L.set i y)[i]? = some y := fun y => by rw [List.getElem?_set, if_pos rfl, if_pos hi]
 have h1 := hx1 ⟨true, x.drop, x.w, x.marks⟩
 have h3 := hx1 ⟨x.put, false, x.w, x.marks⟩
 refine CallA.of pg ord209 Tryz.func209 rfl Tryz.ntmps209 Tryz.results209 rfl fun h0 G0 O0 => ?_
 repeat' (first|refine Sp.h ?_|refine Lk.r rfl ?_|refine Rf.mk rfl ?_|refine OpK.r rfl ?_|refine All.mk fun _=>?_|refine xU ?_|refine xT ?_|refine xJ ?_|refine Ch.l ⟨rfl, rfl⟩ ?_|refine xV ?_|(apply Up.inv;(focus repeat constructor);(focus infer_instance))|refine xD ?_|exact trivial|apply RA'.both|fail)
 all_goals rw [List.set_set]
 all_goals
  refine xW (hf) ?_
  rintro _ _ ⟨w', rfl⟩
  rw [List.set_set]
  repeat' (first|refine Sp.h ?_|refine Lk.r rfl ?_|refine Rf.mk rfl ?_|refine xN ?_|fail)
  exact ⟨_, _, .one (.same (.z)), rfl, w', rfl⟩
theorem multi_a (v : Value) (i : Nat) (e : EvS) (m : MkS) (L : List MgE) (x : MgE) (hx : L[i]? = some x) (hl : x.marks.length ≤ 1024) (hm : MonoK (fgK e.past x.marks) m) :
  CallA Tryz.prog 211 [.agg (chC (.oe v 3 i 0) e m)] [arrR v 231 3 L mgeC, mgeR x] fun q own => q = it (addF (fgK e.past x.marks) m).1 ∧ ChO v i L x.put x.drop (addF (fgK e.past x.marks) m).2 own := by
 have hi := (List.getElem?_eq_some_iff.1 hx).1
 have hf := forget_a v i e m L x hx hl
 have hle : (fgK e.past x.marks).length ≤ 1024 := Nat.le_trans (List.length_filter_le _ _) hl
 refine CallA.of pg ord211 Tryz.func211 rfl Tryz.ntmps211 Tryz.results211 rfl fun h0 G0 O0 => ?_
 repeat' (first|refine Sp.h ?_|refine Lk.r rfl ?_|refine Rf.mk rfl ?_|refine All.mk fun _=>?_|refine xT ?_|refine Ch.l ⟨rfl, rfl⟩ ?_|fail)
 refine xW (hf) ?_
 rintro _ _ ⟨w', rfl⟩
 have ha := add_a v i e m (L.set i ⟨x.put, x.drop, w', fgK e.past x.marks⟩) ⟨x.put, x.drop, w', fgK e.past x.marks⟩ (by rw [List.getElem?_set, if_pos rfl, if_pos hi]) hm hle
 repeat' (first|refine Sp.h ?_|refine Lk.r rfl ?_|refine Rf.mk rfl ?_|refine xT ?_|refine Ch.l ⟨rfl, rfl⟩ ?_|fail)
 refine xW (ha) ?_
 rintro _ _ ⟨w2, rfl, rfl⟩
 rw [List.set_set]
 repeat' (first|refine Sp.h ?_|refine Lk.r rfl ?_|refine xN ?_|fail)
 exact ⟨_, _, .one (.same (.z)), rfl, w2, rfl⟩
end Go.Proofs.YtmjllbjfkafhdaaGreatDoor
namespace Go.CF
open Go
theorem ON.refl : ∀ a : Ord, ON a a
 | .done => .done
 | .none => .none
 | .one _ r => .one (ON.refl r)
 | .alt _ r m => .alt (ON.refl r) (ON.refl m)
def altsT (f : Nat → Ord) : List Nat → Ord
 | [] => .none
 | i :: l => .alt i (f i) (altsT f l)
def fillT (rest : Ord) : Nat → List Nat → Ord
 | 0, _ => rest
 | 1, [i] => .one i rest
 | n + 1, ps => altsT (fun i => fillT rest n (ps.erase i)) ps
section
variable {ops : Array Oper} {cl : Nat → Cls}
def arrL (l0 : Array Bool) (ps0 ps : List Nat) : Array Bool := ((List.range l0.size).map fun j => l0.getD j false || (ps0.contains j && !ps.contains j)).toArray
def subsL : List Nat → List (List Nat)
 | [] => [[]]
 | a :: l => (subsL l).map (a :: ·) ++ subsL l
theorem subsL_mem {ps ps0 : List Nat} (h : List.Sublist ps ps0) : ps ∈ subsL ps0 := by
 induction h with
 | slnil => simp [subsL]
 | cons a _ ih => simp [subsL, ih]
 | cons_cons a _ ih => simp [subsL, ih]
def chkM (ops : Array Oper) (cl : Nat → Cls) (rest : Ord) (fuel : Nat) (l0 : Array Bool) (ps0 : List Nat) : Bool :=
 ((subsL ps0).all fun ps => ps.isEmpty || Region.ready .any ops (arrL l0 ps0 ps) == ps) && ps0.all (fun i => acts (cl i) && !l0.getD i true) && chkG ops cl rest fuel true (arrL l0 ps0 [])
theorem arrL_all {l0 : Array Bool} {ps0 : List Nat} : arrL l0 ps0 ps0 = l0 := by
 apply Array.ext_getElem?
 intro j
 simp only [arrL, List.getElem?_toArray, List.getElem?_map, Bool.and_not_self, Bool.or_false]
 by_cases hj : j < l0.size
 ·simp [Array.getD, hj]
 ·simp [hj]
theorem arrL_set {l0 : Array Bool} {ps0 ps : List Nat} {i : Nat} (hn : ps.Nodup) (h0 : i ∈ ps0) (_hi : i ∈ ps) : (arrL l0 ps0 ps).setIfInBounds i true = arrL l0 ps0 (ps.erase i) := by
 apply Array.ext_getElem?
 intro j
 rw [Array.getElem?_setIfInBounds]
 simp only [arrL, List.getElem?_toArray, List.getElem?_map, List.size_toArray, List.length_map, List.length_range]
 by_cases hij : i = j
 ·subst hij
  by_cases hj : i < l0.size
  ·have : (ps.erase i).contains i = false := by simpa using hn.not_mem_erase
   simp [hj, h0, hn.not_mem_erase]
  ·simp [hj]
 ·rw [if_neg hij]
  have hc : (ps.erase i).contains j = ps.contains j := by
   simp only [List.contains_eq_mem, List.mem_erase_of_ne (Ne.symm hij)]
  by_cases hj : j < l0.size
  ·simp only [List.getElem?_range hj, Option.map_some, hc]
  ·simp [hj]
def oneOK (ops : Array Oper) (cl : Nat → Cls) (i : Nat) (listed : Array Bool) : Bool := match cl i with
 | .pure => (Region.ready .any ops listed).contains i && Region.free .any ops listed i
 | .read => (Region.ready .any ops listed).contains i && Region.free .any ops listed i && (List.range ops.size).all fun j => listed.getD j true || !isLoud (cl j) || waitsB ops i ops.size j
 | _ => Region.ready .any ops listed == [i]
theorem chk_one_eq {i : Nat} {r : Ord} {fuel : Nat} {listed : Array Bool} : chkG ops cl (.one i r) (fuel + 1) true listed = (oneOK ops cl i listed && chkG ops cl r fuel true (listed.setIfInBounds i true)) := by
 simp only [chkG, oneOK]
 cases cl i <;> simp
theorem altsT_heads {f : Nat → Ord} : ∀ l, (altsT f l).heads = l
 | [] => rfl
 | i :: l => by simp [altsT, Ord.heads, altsT_heads l]
theorem chk_alts {f : Nat → Ord} {fuel : Nat} {listed : Array Bool} : ∀ {l : List Nat}, (∀ i ∈ l, acts (cl i) = true ∧ chkG ops cl (f i) fuel true (listed.setIfInBounds i true) = true) → chkG ops cl (altsT f l) (fuel + 1) false listed = true
 | [], _ => by simp [altsT, chkG]
 | i :: l, h => by
  simp only [altsT, chkG, Bool.not_false, Bool.true_or, Bool.true_and, Bool.and_eq_true]
  exact ⟨h i (by simp), chk_alts fun j hj => h j (by simp [hj])⟩
theorem chk_fill {rest : Ord} {fuel : Nat} {l0 : Array Bool} {ps0 : List Nat} (hn : ps0.Nodup) (h : chkM ops cl rest fuel l0 ps0 = true) : chkG ops cl (fillT rest ps0.length ps0) (fuel + ps0.length) true l0 = true := by
 simp only [chkM, Bool.and_eq_true, List.all_eq_true, Bool.or_eq_true] at h
 obtain ⟨⟨h1, h2⟩, h3⟩ := h
 have key : ∀ (n : Nat) (ps : List Nat), ps.length = n → List.Sublist ps ps0 → chkG ops cl (fillT rest n ps) (fuel + n) true (arrL l0 ps0 ps) = true := by
  intro n
  induction n with
  | zero =>
   intro ps hl _
   have : ps = [] := List.length_eq_zero_iff.1 hl
   subst this
   exact h3
  | succ n ih =>
   intro ps hl hs
   have hnp : ps.Nodup := List.Sublist.nodup hs hn
   have hready : Region.ready .any ops (arrL l0 ps0 ps) = ps := by
    rcases h1 ps (subsL_mem hs) with h9|h9
    ·rw [List.isEmpty_iff] at h9;subst h9;simp at hl
    ·exact eq_of_beq h9
   have sub : ∀ i ∈ ps, acts (cl i) = true ∧ chkG ops cl (fillT rest n (ps.erase i)) (fuel + n) true ((arrL l0 ps0 ps).setIfInBounds i true) = true := by
    intro i hi
    refine ⟨(h2 i (hs.mem hi)).1, ?_⟩
    rw [arrL_set hnp (hs.mem hi) hi]
    exact ih _ (by rw [List.length_erase_of_mem hi];omega) ((List.erase_sublist).trans hs)
   have gen : 2 ≤ ps.length → chkG ops cl (altsT (fun i => fillT rest n (ps.erase i)) ps) (fuel + n + 1) true (arrL l0 ps0 ps) = true := by
    intro h2l
    match ps, hready, sub with
    | i :: l, hready, sub =>
     simp only [altsT, chkG, altsT_heads, hready, beq_self_eq_true, Bool.or_true, Bool.true_and, Bool.and_eq_true]
     exact ⟨sub i (by simp), chk_alts fun j hj => sub j (by simp [hj])⟩
   match n, ps, hl, gen, sub, hready with
   | 0, [i], _, _, sub, hready =>
    obtain ⟨g1, g2⟩ := sub i (by simp)
    have g3 : oneOK ops cl i (arrL l0 ps0 [i]) = true := by
     revert g1
     unfold oneOK
     cases cl i <;> simp [acts, hready]
    show chkG ops cl (.one i rest) (fuel + 1) true (arrL l0 ps0 [i]) = true
    rw [chk_one_eq, g3]
    simpa [fillT] using g2
   | n + 1, ps, hl, gen, _, _ => exact gen (by omega)
 have := key _ ps0 rfl (List.Sublist.refl _)
 rwa [arrL_all] at this
theorem chk_one {i : Nat} {r : Ord} {fuel : Nat} {listed : Array Bool} (h1 : oneOK ops cl i listed = true) (h2 : chkG ops cl r fuel true (listed.setIfInBounds i true) = true) : chkG ops cl (.one i r) (fuel + 1) true listed = true := by
 rw [chk_one_eq, h1, h2];rfl
end
section
variable {Γ : Cx} {k : List KI} {e : EA} {o : List Res} {ops : Array Oper} {cl : Nat → Cls}
theorem RA'.alts {f : Nat → Ord} : ∀ {ps : List Nat}, (∀ i ∈ ps, RA' Γ k ops cl (.one i (f i)) e o) → RA' Γ k ops cl (altsT f ps) e o
 | [], _ => show RA' Γ k ops cl .none e o from Sp.h (s := True) trivial
 | i :: l, h => show RA' Γ k ops cl (.alt i (f i) (altsT f l)) e o from Sp.h (s := RA' Γ k ops cl (.one i (f i)) e o ∧ RA' Γ k ops cl (altsT f l) e o) ⟨h i (by simp), RA'.alts fun j hj => h j (by simp [hj])⟩
theorem lookL_mem {β : Type} {kvs : List (List Int × β)} (hn : kvs.Pairwise fun a b => a.1 ≠ b.1) {key : List Int} {v : β} (h : (key, v) ∈ kvs) : lookL kvs key = some v := by
 induction kvs with
 | nil => cases h
 | cons a l ih =>
  obtain ⟨h1, h2⟩ := List.pairwise_cons.1 hn
  simp only [lookL, List.find?_cons] at ih ⊢
  rcases List.mem_cons.1 h with rfl|h
  ·simp
  ·have h3 := h1 _ h
   have h4 : decide (a.1 = key) = false := by simpa using h3
   rw [h4]
   exact ih h2 h
theorem lookL_nil {β : Type} {kvs : List (List Int × β)} {key : List Int} (h : ∀ p ∈ kvs, p.1 ≠ key) : lookL kvs key = none := by
 unfold lookL
 rw [List.find?_eq_none.2 fun p hp => by simpa using h p hp]
 rfl
theorem lookL_perm {β : Type} {a b : List (List Int × β)} (hp : a.Perm b) (hn : b.Pairwise fun x y => x.1 ≠ y.1) (key : List Int) : lookL a key = lookL b key := by
 have hna : a.Pairwise fun x y => x.1 ≠ y.1 := hp.symm.pairwise hn fun h => fun h' => h h'.symm
 by_cases h : ∃ v, (key, v) ∈ b
 ·obtain ⟨v, hv⟩ := h
  rw [lookL_mem hn hv, lookL_mem hna (hp.mem_iff.2 hv)]
 ·rw [lookL_nil (kvs := b) (key := key) fun p hp' hk => h ⟨p.2, by subst hk;exact hp'⟩, lookL_nil (kvs := a) (key := key) fun p hp' hk => h ⟨p.2, by subst hk;exact hp.mem_iff.1 hp'⟩]
theorem RA'.fill {β : Type} {b : Nat} {kt : TypeId} {f : β → AV} {rest : Ord} (items : Nat → List Int × β) (ps0 : List Nat) (hnd : (ps0.map items).Pairwise fun x y => x.1 ≠ y.1)
  (hs : ∀ i ∈ ps0, ∀ kvs r, RA' Γ k ops cl r e (mapR Γ.P b kt (updL kvs (items i).1 (items i).2) f :: o) → RA' Γ k ops cl (.one i r) e (mapR Γ.P b kt kvs f :: o))
  (h : ∀ kvs, kvs.Perm (ps0.map items) → RA' Γ k ops cl rest e (mapR Γ.P b kt kvs f :: o)) :
  RA' Γ k ops cl (fillT rest ps0.length ps0) e (mapR Γ.P b kt [] f :: o) := by
 have key : ∀ (n : Nat) (ps : List Nat) (kvs : List (List Int × β)), ps.length = n → (kvs ++ ps.map items).Perm (ps0.map items) → (∀ i ∈ ps, i ∈ ps0) → RA' Γ k ops cl (fillT rest n ps) e (mapR Γ.P b kt kvs f :: o) := by
  intro n
  induction n with
  | zero =>
   intro ps kvs hl hp _
   have : ps = [] := List.length_eq_zero_iff.1 hl
   subst this
   exact h kvs (by simpa using hp)
  | succ n ih =>
   intro ps kvs hl hp hm
   have step : ∀ i ∈ ps, ∀ r, RA' Γ k ops cl r e (mapR Γ.P b kt (kvs ++ [items i]) f :: o) → RA' Γ k ops cl (.one i r) e (mapR Γ.P b kt kvs f :: o) := by
    intro i hi r hr
    refine hs i (hm i hi) kvs r ?_
    have hnk : lookL kvs (items i).1 = none := by
     refine lookL_nil fun p hpm hk => ?_
     have hna : (kvs ++ ps.map items).Pairwise fun x y => x.1 ≠ y.1 := hp.symm.pairwise hnd fun h => fun h' => h h'.symm
     exact (List.pairwise_append.1 hna).2.2 p hpm (items i) (List.mem_map_of_mem hi) hk
    rw [updL_none _ _ _ hnk]
    exact hr
   have sub : ∀ i ∈ ps, RA' Γ k ops cl (fillT rest n (ps.erase i)) e (mapR Γ.P b kt (kvs ++ [items i]) f :: o) := by
    intro i hi
    refine ih _ _ (by rw [List.length_erase_of_mem hi];omega) ?_ fun j hj => hm j (List.mem_of_mem_erase hj)
    refine List.Perm.trans ?_ hp
    rw [List.append_assoc]
    refine List.Perm.append_left kvs ?_
    have := (List.perm_cons_erase hi).map items
    exact this.symm
   have gen : RA' Γ k ops cl (altsT (fun i => fillT rest n (ps.erase i)) ps) e (mapR Γ.P b kt kvs f :: o) := RA'.alts fun i hi => step i hi _ (sub i hi)
   match n, ps, hl, gen, sub, step with
   | 0, [i], _, _, sub, step => exact step i (by simp) _ (sub i (by simp))
   | n + 1, ps, _, gen, _, _ => exact gen
 exact key _ ps0 [] rfl (by simp) fun _ h => h
end
end Go.CF
namespace Go.Proofs.YtmjllbjfkafhdaaGreatDoor
open Go Go.CF
set_option maxRecDepth 20000
abbrev fnV (g : FuncId) : AV := .fn g []
def rulesL : List (List Int × FuncId) := [([2, 0], 207), ([2, 1], 208), ([3, 0], 209), ([3, 1], 207), ([4, 2], 210), ([5, 2], 211)]
def rulesI (i : Nat) : List Int × FuncId := (rulesL[i / 2 - 1]?).getD ([], 0)
def rulesT : Ord := .one 1 (.one 3 (.one 5 (.one 7 (.one 9 (.one 11 (.one 0 (fillT (.one 13 (.one 14 .done)) 6 [2, 4, 6, 8, 10, 12])))))))
def rulesO : Nat → Ord × (Nat → Cls) := fun id => bif Nat.beq id 1 then (rulesT, clOf [.ext, .pure, .loud, .pure, .loud, .pure, .loud, .pure, .loud, .pure, .loud, .pure, .loud, .pure, .pure]) else (.done, clOf [])
set_option maxHeartbeats 1000000 in
theorem rules_a : CallA Tryz.prog 162 [] [] fun r own => ∃ b kvs, r = .val (.map (some b)) ∧ own = [mapR Tryz.prog b 227 kvs fnV] ∧ ∀ key, lookL kvs key = lookL rulesL key := by
 refine CallA.of pg rulesO Tryz.func162 rfl Tryz.ntmps162 Tryz.results162 rfl fun h0 G0 O0 => ?_
 (repeat' (first|(show CA _ _ (Code.region 1 _ _) _ _;apply Stopped.out)|refine Sp.h ?_|refine Lk.r rfl ?_|refine Rf.mk rfl ?_|fail));any_goals apply Stopped.mk
 apply CA.draw (t := rulesT)
 focus rfl
 focus kernel_rfl
 focus
  show (noDef _ && chkG _ _ rulesT 15 _ _) = true
  rw [Bool.and_eq_true]
  refine ⟨by kernel_rfl, ?_⟩
  refine chk_one (fuel := 14) (by kernel_rfl) (chk_one (fuel := 13) (by kernel_rfl) (chk_one (fuel := 12) (by kernel_rfl) (chk_one (fuel := 11) (by kernel_rfl) (chk_one (fuel := 10) (by kernel_rfl) (chk_one (fuel := 9) (by kernel_rfl) (chk_one (fuel := 8) (by kernel_rfl) ?_))))))
  exact chk_fill (fuel := 2) (ps0 := [2, 4, 6, 8, 10, 12]) (by decide) (by kernel_rfl)
 focus exact ON.refl _
 focus rfl
 unfold rulesT
 repeat' (first|refine Sp.h ?_|refine Lk.r rfl ?_|refine Rf.mk rfl ?_|refine OpK.r rfl ?_|(apply Fk.r;focus repeat' first|infer_instance|constructor)|fail)
 refine MkM.r fnV ?_
 repeat' (first|refine All.mk fun _=>?_|fail)
 apply RA'.fill rulesI [2, 4, 6, 8, 10, 12]
 ·decide
 ·intro i hi kvs r h
  simp only [List.mem_cons, List.not_mem_nil, or_false] at hi
  rcases hi with rfl|rfl|rfl|rfl|rfl|rfl
  all_goals repeat' (first|refine Sp.h ?_|refine Lk.r rfl ?_|refine Rf.mk rfl ?_|refine OpK.r rfl ?_|refine xK ?_|(apply Kf.mk;(focus kernel_rfl))|refine xM ?_|refine UpV.r rfl ?_|fail)
  all_goals exact h
 ·intro kvs hp
  have hlk : ∀ key, lookL kvs key = lookL rulesL key := fun key => lookL_perm hp (by decide) key
  repeat' (first|refine Sp.h ?_|refine Lk.r rfl ?_|refine OpK.r rfl ?_|refine xN ?_|fail)
  exact ⟨_, _, .one (.same (.z)), _, kvs, rfl, rfl, hlk⟩
end Go.Proofs.YtmjllbjfkafhdaaGreatDoor
namespace Go.Proofs.YtmjllbjfkafhdaaGreatDoor
open Go Go.CF
set_option maxRecDepth 20000
def cmp2 (a b : MkS) : Int := orI [cmpI a.time b.time, cmpI a.rep b.rep]
noncomputable def lastF (l : List MkS) (m : MkS) : Int × List MkS := match l with
 | [] => addF [] m
 | x :: r => (0, if cmp2 x m < 0 then m :: r else x :: r)
set_option maxHeartbeats 2000000 in
theorem last_a (v : Value) (i : Nat) (e : EvS) (m : MkS) (L : List MgE) (x : MgE) (hx : L[i]? = some x) (hl : x.marks.length ≤ 1024) :
  CallA Tryz.prog 210 [.agg (chC (.oe v 3 i 0) e m)] [arrR v 231 3 L mgeC, mgeR x] fun q own => q = it (lastF x.marks m).1 ∧ ChO v i L x.put x.drop (lastF x.marks m).2 own := by
 have hi := (List.getElem?_eq_some_iff.1 hx).1
 have hsame : L.set i ⟨x.put, x.drop, x.w, x.marks⟩ = L := by
  apply List.ext_getElem?
  intro j
  rw [List.getElem?_set]
  split
  ·rename_i hj;subst hj;first|rw [if_pos hi, hx] | rw [hx]
  ·rfl
 obtain ⟨p, d, w, l⟩ := x
 simp only at hl hsame
 match l, hl, hx, hsame with
 | [], hl, hx, hsame =>
  have ha := add_a v i e m L ⟨p, d, w, []⟩ hx (fun i j a b _ h => by simp at h) hl
  refine CallA.of pg ord210 Tryz.func210 rfl Tryz.ntmps210 Tryz.results210 rfl fun h0 G0 O0 => ?_
  repeat' (first|refine Sp.h ?_|refine Lk.r rfl ?_|refine Rf.mk rfl ?_|refine xA ?_|refine All.mk fun _=>?_|refine xU ?_|refine xT ?_|refine xJ ?_|refine Ch.l ⟨rfl, rfl⟩ ?_|fail)
  refine xW (ha) ?_
  rintro _ _ ⟨w2, rfl, rfl⟩
  repeat' (first|refine Sp.h ?_|refine Lk.r rfl ?_|refine xN ?_|fail)
  exact ⟨_, _, .one (.same (.z)), rfl, w2, rfl⟩
 | y :: r, hl, hx, hsame =>
  have h0 : (y :: r)[0]? = some y := rfl
  have hne : ¬ ((({ put := p, drop := d, w := w, marks := y :: r } : MgE).marks.length : Int) = 0) := by simp only [List.length_cons];omega
  have ho := orI_p [cmpI y.time m.time, cmpI y.rep m.rep]
  by_cases hc : cmp2 y m < 0
  ·have hF : lastF (y :: r) m = (0, m :: r) := by simp [lastF, hc]
   have hc2 : orI [cmpI y.time m.time, cmpI y.rep m.rep] < 0 := hc
   rw [hF]
   refine CallA.of pg ord210 Tryz.func210 rfl Tryz.ntmps210 Tryz.results210 rfl fun h0 G0 O0 => ?_
   repeat' (first|refine Sp.h ?_|refine Lk.r rfl ?_|refine Rf.mk rfl ?_|refine xB ?_|refine OpK.r rfl ?_|refine All.mk fun _=>?_|refine xU ?_|refine xT ?_|refine xI ?_|refine xJ ?_|refine Ch.l ⟨rfl, rfl⟩ ?_|(apply SetAsk.r;focus repeat' constructor)|(apply Fk.r;focus repeat' first|infer_instance|constructor)|refine xN ?_|refine Rf.mk ⟨rfl, rfl, rfl⟩ ?_|refine xD ?_|(apply Cl.p (compareI_p _ _);focus repeat' constructor))
   (apply Cl.lend (ho);(focus repeat' (first|exact Lend.nil|(apply Lend.lendm;(focus repeat constructor);(focus rfl);(focus first|omega|decide|(simp;omega)|exact Nat.le_of_ble_eq_true rfl))|fail)))
   (repeat' (first|(show CA _ _ (Code.region 6 _ _) _ _;apply Stopped.out)|refine Sp.h ?_|refine Lk.r rfl ?_|refine Rf.mk rfl ?_|refine xA ?_|refine OpK.r rfl ?_|refine xU ?_|refine xT ?_|refine xI ?_|refine xJ ?_|refine Ch.r ?_|(apply SetAsk.r;focus repeat' constructor)|refine Up.r rfl ?_|refine xD ?_|fail));any_goals apply Stopped.mk
   have hmap : (L.set i ⟨p, d, w, m :: r⟩).map mgeC = L.map mgeC := by
    rw [List.map_set]
    show (L.map mgeC).set i (mgeC ⟨p, d, w, y :: r⟩) = L.map mgeC
    rw [← List.map_set, hsame]
   apply CA.retype (v := v) (m := L.set i ⟨p, d, w, m :: r⟩) (g := mgeC)
   focus (repeat constructor)
   focus exact hmap
   repeat' (first|refine Sp.h ?_|refine Lk.r rfl ?_|refine Rf.mk rfl ?_|refine xN ?_|fail)
   exact ⟨_, _, .one (.same (.z)), rfl, w, rfl⟩
  ·have hF : lastF (y :: r) m = (0, y :: r) := by simp [lastF, hc]
   have hc2 : ¬ orI [cmpI y.time m.time, cmpI y.rep m.rep] < 0 := hc
   rw [hF]
   refine CallA.of pg ord210 Tryz.func210 rfl Tryz.ntmps210 Tryz.results210 rfl fun h0 G0 O0 => ?_
   repeat' (first|refine Sp.h ?_|refine Lk.r rfl ?_|refine Rf.mk rfl ?_|refine xB ?_|refine OpK.r rfl ?_|refine All.mk fun _=>?_|refine xU ?_|refine xT ?_|refine xI ?_|refine xJ ?_|refine Ch.l ⟨rfl, rfl⟩ ?_|(apply SetAsk.r;focus repeat' constructor)|(apply Fk.r;focus repeat' first|infer_instance|constructor)|refine xN ?_|refine Rf.mk ⟨rfl, rfl, rfl⟩ ?_|refine xD ?_|(apply Cl.p (compareI_p _ _);focus repeat' constructor))
   (apply Cl.lend (ho);(focus repeat' (first|exact Lend.nil|(apply Lend.lendm;(focus repeat constructor);(focus rfl);(focus first|omega|decide|(simp;omega)|exact Nat.le_of_ble_eq_true rfl))|fail)))
   repeat' (first|refine Sp.h ?_|refine Lk.r rfl ?_|refine Rf.mk rfl ?_|refine xB ?_|refine OpK.r rfl ?_|refine xN ?_|fail)
   all_goals exact ⟨_, _, .one (.same (.z)), rfl, w, congrArg (fun z => [arrR v 231 3 z mgeC, arrR w 233 4 (y :: r) mkC]) (hsame).symm⟩
end Go.Proofs.YtmjllbjfkafhdaaGreatDoor
namespace Go.Proofs.YtmjllbjfkafhdaaGreatDoor
open Go Go.CF
set_option maxRecDepth 20000
def EvV (m : ModS) (n : Int) (e : EvS) : Prop := FormedE e ∧ (e.past.length : Int) = n ∧ (e.kind = 0 → e.action < (m.acts.length : Nat))
noncomputable instance (m : ModS) (n : Int) (e : EvS) : Decidable (EvV m n e) := Classical.propDecidable _
theorem evalid_p (m : ModS) (n : Int) (e : EvS) : CallP Tryz.prog 155 [mdl m, it n, evA' e] (bl (decide (EvV m n e))) := by
 have hf := formed_p e
 refine CallA.of pg ord155 Tryz.func155 rfl Tryz.ntmps155 Tryz.results155 rfl fun h0 G0 O0 => ?_
 repeat' (first|refine Sp.h ?_|refine Lk.r rfl ?_|refine Rf.mk rfl ?_|refine xA ?_|refine xB ?_|(refine Bd.mk ?_ ?_ <;> intro _)|refine Im.mk fun _=>?_|refine All.mk fun _=>?_|refine xT ?_|refine Ch.l ⟨rfl, rfl⟩ ?_|refine xN ?_|(apply Cl.p (hf);focus repeat' constructor))
 all_goals refine Fin.p rfl (vb ?_)
 all_goals first
  | exact (decide_eq_false (fun h => by
    obtain ⟨h1, h2, h3⟩ := h
    first
     | exact absurd h1 (by assumption)
     | omega)).symm
  | exact (decide_eq_true ⟨by assumption, by omega, by omega⟩).symm
  | exact decide_eq_decide.2 ⟨fun h => ⟨by assumption, by omega, by omega⟩, fun h => by
    obtain ⟨h1, h2, h3⟩ := h
    omega⟩
  | skip
abbrev UpS := Int × Int × Int
def updF (us : List UpS) (c : Int) : Option UpS := us.reverse.find? fun u => decide (u.2.1 = c)
def updT (us : List UpS) : List (List Int × UpS) := us.foldl (fun kvs u => updL kvs [u.2.1] u) []
theorem updT_look (us : List UpS) (c : Int) : lookL (updT us) [c] = updF us c := by
 have key : ∀ us : List UpS, lookL (updT us.reverse) [c] = updF us.reverse c := by
  intro us
  induction us with
  | nil => rfl
  | cons u us ih =>
   rw [List.reverse_cons, updT, List.foldl_append, updF, List.reverse_append]
   simp only [List.foldl_cons, List.foldl_nil, List.reverse_cons, List.reverse_nil, List.nil_append, List.cons_append, List.find?_cons]
   rw [lookL_upd]
   by_cases h : u.2.1 = c
   ·simp [h]
   ·have h2 : ¬ [c] = [u.2.1] := by simpa using fun h9 : c = u.2.1 => h h9.symm
    rw [if_neg h2]
    simp only [h, decide_false]
    exact ih
 have := key us.reverse
 rwa [List.reverse_reverse] at this
theorem rules_cases (a b : Int) : lookL rulesL [a, b] = none ∨ (a = 2 ∧ b = 0 ∧ lookL rulesL [a, b] = some 207) ∨ (a = 2 ∧ b = 1 ∧ lookL rulesL [a, b] = some 208) ∨ (a = 3 ∧ b = 0 ∧ lookL rulesL [a, b] = some 209)
  ∨ (a = 3 ∧ b = 1 ∧ lookL rulesL [a, b] = some 207) ∨ (a = 4 ∧ b = 2 ∧ lookL rulesL [a, b] = some 210) ∨ (a = 5 ∧ b = 2 ∧ lookL rulesL [a, b] = some 211) := by
 cases h : lookL rulesL [a, b] with
 | none => exact .inl rfl
 | some g =>
  refine .inr ?_
  have hm := List.mem_of_find?_eq_some (p := fun p : List Int × FuncId => decide (p.1 = [a, b])) (l := rulesL) (a := ([a, b], g)) (by
   unfold lookL at h
   cases h9 : rulesL.find? (fun p => decide (p.1 = [a, b])) with
   | none => rw [h9] at h;cases h
   | some q =>
    rw [h9] at h
    have h1 : q.1 = [a, b] := by simpa using List.find?_some h9
    have h2 : q.2 = g := by simpa using h
    rw [← h1, ← h2])
  simp only [rulesL, List.mem_cons, Prod.mk.injEq, List.cons.injEq, List.not_mem_nil, or_false, and_true] at hm
  rcases hm with ⟨⟨h1, h2⟩, h3⟩|⟨⟨h1, h2⟩, h3⟩|⟨⟨h1, h2⟩, h3⟩|⟨⟨h1, h2⟩, h3⟩|⟨⟨h1, h2⟩, h3⟩|⟨⟨h1, h2⟩, h3⟩ <;> subst h1 <;> subst h2 <;> subst h3 <;> simp
theorem LtK.trans {a b c : MkS} (h1 : LtK a b) (h2 : LtK b c) : LtK a c := by unfold LtK at *;omega
theorem LtK.cotrans {a b : MkS} (c : MkS) (h : LtK a b) : LtK a c ∨ LtK c b := by unfold LtK at *;omega
def SrtK (l : List MkS) : Prop := l.Pairwise fun a b => ¬ LtK b a
theorem SrtK.mono {l : List MkS} (h : SrtK l) (m : MkS) : MonoK l m := by
 intro i j a b hij ha hb hlt
 rcases Nat.lt_or_ge i j with h1|h1
 ·have hi := (List.getElem?_eq_some_iff.1 ha)
  have hj := (List.getElem?_eq_some_iff.1 hb)
  have := List.pairwise_iff_getElem.1 h i j hi.1 hj.1 h1
  rw [hi.2, hj.2] at this
  rcases hlt.cotrans a with h2|h2
  ·exact absurd h2 this
  ·exact h2
 ·have : i = j := by omega
  subst this
  rw [ha] at hb;cases hb;exact hlt
theorem srt_of {l : List MkS} (h : ∀ (i : Nat) (x y : MkS), l[i]? = some x → l[i + 1]? = some y → ¬ LtK y x) : SrtK l := by
 induction l with
 | nil => exact List.Pairwise.nil
 | cons a l ih =>
  have hl : SrtK l := ih fun i x y hx hy => h (i + 1) x y hx hy
  refine List.pairwise_cons.2 ⟨fun b hb => ?_, hl⟩
  match l, hl, h with
  | [], _, _ => cases hb
  | c :: l, hl, h =>
   have h0 := h 0 a c rfl rfl
   rcases List.mem_cons.1 hb with rfl|hb
   ·exact h0
   ·have h1 := (List.pairwise_cons.1 hl).1 b hb
    intro h2
    rcases h2.cotrans c with h3|h3
    ·exact h1 h3
    ·exact h0 h3
theorem ValG.srt {t : TblS} {g : MgS} (h : ValG t g) : SrtK g.marks := by
 refine srt_of fun i x y hx hy => ?_
 have hi := (List.getElem?_eq_some_iff.1 hy).1
 exact (h.2 (i + 1) y hi hy).2.2 x (by omega) (by simpa using hx)
theorem SrtK.filter {l : List MkS} (h : SrtK l) (p : MkS → Bool) : SrtK (l.filter p) := List.Pairwise.filter p h
noncomputable def cellF (e : EvS) (t : TblS) (u : Option UpS) (g : MgS) : Int × MgS := match u with
 | none => (0, g)
 | some u =>
  let m : MkS := ⟨e.rep, e.num, e.time, if isReg t.kind then u.2.2 else 0⟩
  if t.kind = 2 ∧ u.1 = 0 ∨ t.kind = 3 ∧ u.1 = 1 then ((addF g.marks m).1, ⟨g.put, g.drop, (addF g.marks m).2⟩)
  else if t.kind = 2 ∧ u.1 = 1 then (0, ⟨false, g.drop, fgK e.past g.marks⟩)
  else if t.kind = 3 ∧ u.1 = 0 then (0, ⟨true, false, fgK e.past g.marks⟩)
  else if t.kind = 4 ∧ u.1 = 2 then ((lastF g.marks m).1, ⟨g.put, g.drop, (lastF g.marks m).2⟩)
  else if t.kind = 5 ∧ u.1 = 2 then ((addF (fgK e.past g.marks) m).1, ⟨g.put, g.drop, (addF (fgK e.past g.marks) m).2⟩)
  else (0, g)
end Go.Proofs.YtmjllbjfkafhdaaGreatDoor
namespace Go.Proofs.YtmjllbjfkafhdaaGreatDoor
open Go Go.CF
set_option maxRecDepth 20000
instance {v : Value} {sz j r : Nat} : OneA (.oe v sz j r) := ⟨by rintro h G u ⟨b, o, len, cap, _, rfl⟩;rfl⟩
def usF (m : ModS) (e : EvS) : List UpS := match m.acts[e.action.toNat]? with
 | some a => a.eff.updates
 | none => []
noncomputable def cellsF (ts : List TblS) (l : List MgS) (us : List UpS) (e : EvS) : List (Int × MgS) := (List.range l.length).map fun (i : Nat) => match ts[i]?, l[i]? with
 | some t, some g => cellF e t (updF us i) g
 | _, _ => (0, ⟨false, false, []⟩)
theorem cellsF_at {ts : List TblS} {l : List MgS} {us : List UpS} {e : EvS} {i : Nat} {t : TblS} {g : MgS} (ht : ts[i]? = some t) (hg : l[i]? = some g) : (cellsF ts l us e)[i]? = some (cellF e t (updF us i) g) := by
 have hi := (List.getElem?_eq_some_iff.1 hg).1
 rw [cellsF, List.getElem?_map, List.getElem?_range hi, Option.map_some, ht, hg]
theorem cellsF_len {ts : List TblS} {l : List MgS} {us : List UpS} {e : EvS} : (cellsF ts l us e).length = l.length := by simp [cellsF]
noncomputable def gatherF (C : List (Int × MgS)) : Int × List MgS := match C.find? fun p => decide (p.1 ≠ 0 ∧ p.1 ≠ 8) with
 | some p => (p.1, [])
 | none => if ∃ p ∈ C, p.1 = 8 then (8, []) else (0, C.map (·.2))
noncomputable def applyF (m : ModS) (l : List MgS) (e : EvS) : Int × List MgS :=
 if ¬ (ValL (mrgF m) l ∧ EvV m (e.past.length : Nat) e) then (1, [])
 else if e.kind ≠ 0 then (0, l)
 else gatherF (cellsF (mrgF m) l (usF m e) e)
theorem updT_succ {us : List UpS} {i : Nat} {u : UpS} (h : us[i]? = some u) : updT (us.take (i + 1)) = updL (updT (us.take i)) [u.2.1] u := by
 rw [List.take_add_one, h, updT, List.foldl_append];rfl
theorem gather_bad {C : List (Int × MgS)} {i : Nat} {q : Int × MgS} (hq : C[i]? = some q) (h1 : ∀ p ∈ C.take i, p.1 = 0 ∨ p.1 = 8) (h2 : q.1 ≠ 0) (h3 : q.1 ≠ 8) : gatherF C = (q.1, []) := by
 have hf : C.find? (fun p => decide (p.1 ≠ 0 ∧ p.1 ≠ 8)) = some q := find_at hq (by simp [h2, h3]) fun j y hj hy => by
  have := h1 y (List.mem_of_getElem? (i := j) (by rw [List.getElem?_take, if_pos hj];exact hy))
  rcases this with h|h <;> simp [h]
 rw [gatherF, hf]
theorem gather_end {C : List (Int × MgS)} (h1 : ∀ p ∈ C, p.1 = 0 ∨ p.1 = 8) : gatherF C = if ∃ p ∈ C, p.1 = 8 then (8, []) else (0, C.map (·.2)) := by
 have hf : C.find? (fun p => decide (p.1 ≠ 0 ∧ p.1 ≠ 8)) = none := List.find?_eq_none.2 fun p hp => by
  rcases h1 p hp with h|h <;> simp [h]
 rw [gatherF, hf]
theorem cellF_none {e : EvS} {t : TblS} {u : UpS} {g : MgS} (h : lookL rulesL [t.kind, u.1] = none) : cellF e t (some u) g = (0, g) := by
 have no : ∀ a b : Int, t.kind = a ∧ u.1 = b → lookL rulesL [a, b] = none := fun a b ⟨h1, h2⟩ => by rw [← h1, ← h2];exact h
 have n1 : ¬ (t.kind = 2 ∧ u.1 = 0) := fun h9 => absurd (no _ _ h9) (by decide)
 have n2 : ¬ (t.kind = 3 ∧ u.1 = 1) := fun h9 => absurd (no _ _ h9) (by decide)
 have n3 : ¬ (t.kind = 2 ∧ u.1 = 1) := fun h9 => absurd (no _ _ h9) (by decide)
 have n4 : ¬ (t.kind = 3 ∧ u.1 = 0) := fun h9 => absurd (no _ _ h9) (by decide)
 have n5 : ¬ (t.kind = 4 ∧ u.1 = 2) := fun h9 => absurd (no _ _ h9) (by decide)
 have n6 : ¬ (t.kind = 5 ∧ u.1 = 2) := fun h9 => absurd (no _ _ h9) (by decide)
 simp only [cellF, n1, n2, n3, n4, n5, n6, or_self, if_false]
def ApK (q : Int × List MgS) (r : AV) (own : List Res) : Prop :=
 (∃ v L, q.1 = 0 ∧ r = .tup [.ow v, it 0] ∧ own = outR v L ∧ L.map MgE.g = q.2) ∨ (q.1 ≠ 0 ∧ r = .tup [.val (.slice none 0 0), it q.1] ∧ own = [])
set_option maxHeartbeats 4000000 in
theorem apply_a (m : ModS) (l : List MgS) (e : EvS) (hm : MOK m) : CallA Tryz.prog 105 [mdl m, mgs l, evA' e] [] (ApK (applyF m l e)) := by
 have hva := validM_p m l hm.lay
 have hev := evalid_p m (e.past.length : Nat) e
 by_cases hv : ValL (mrgF m) l ∧ EvV m (e.past.length : Nat) e
 rotate_left
 ·have hF : applyF m l e = (1, []) := if_pos hv
  rw [hF]
  refine CallA.of pg ord105 Tryz.func105 rfl Tryz.ntmps105 Tryz.results105 rfl fun h0 G0 O0 => ?_
  by_cases h1 : ValL (mrgF m) l
  ·have h2 : ¬ EvV m (e.past.length : Nat) e := fun h => hv ⟨h1, h⟩
   repeat' (first|refine Sp.h ?_|refine Lk.r rfl ?_|refine Rf.mk rfl ?_|refine xA ?_|refine xB ?_|refine Im.mk fun _=>?_|refine All.mk fun _=>?_|refine xT ?_|refine Ch.l ⟨rfl, rfl⟩ ?_|refine xN ?_|(apply Cl.p (hva);focus repeat' constructor)|(apply Cl.p (hev);focus repeat' constructor))
   exact ⟨_, _, .tup (.same (.same (.z))), .inr ⟨by decide, rfl, rfl⟩⟩
  ·repeat' (first|refine Sp.h ?_|refine Lk.r rfl ?_|refine Rf.mk rfl ?_|refine xB ?_|refine All.mk fun _=>?_|refine xT ?_|refine Ch.l ⟨rfl, rfl⟩ ?_|refine xN ?_|(apply Cl.p (hva);focus repeat' constructor)|(apply Cl.p (hev);focus repeat' constructor))
   exact ⟨_, _, .tup (.same (.same (.z))), .inr ⟨by decide, rfl, rfl⟩⟩
 obtain ⟨h1, h2⟩ := hv
 have hl : l.length ≤ 20 := by have := h1.1;have := hm.mrg;omega
 have hg : ∀ (i : Nat) g, l[i]? = some g → ∃ t, (mrgF m)[i]? = some t ∧ ValG t g := fun i g hi => by
  obtain ⟨t, ht⟩ := get_of (l := mrgF m) (i := i) (by have := h1.1;have := (List.getElem?_eq_some_iff.1 hi).1;omega)
  exact ⟨t, ht, h1.2 i t g ht hi⟩
 have hcl := clone34_a l (by omega) (fun g hgm => by
  obtain ⟨i, hi⟩ := List.getElem?_of_mem hgm
  obtain ⟨t, _, hv⟩ := hg i g hi
  have := hv.1.2.2.2
  omega)
 have hce := cells_p m hm.lay
 have hru := rules_a
 by_cases hk : e.kind = 0
 rotate_left
 ·have hF : applyF m l e = (0, l) := by rw [applyF, if_neg (fun h => h ⟨h1, h2⟩), if_pos hk]
  rw [hF]
  refine CallA.of pg ord105 Tryz.func105 rfl Tryz.ntmps105 Tryz.results105 rfl fun h0 G0 O0 => ?_
  repeat' (first|refine Sp.h ?_|refine Lk.r rfl ?_|refine Rf.mk rfl ?_|refine xA ?_|refine Im.mk fun _=>?_|refine All.mk fun _=>?_|refine xT ?_|refine Ch.l ⟨rfl, rfl⟩ ?_|(apply Cl.p (hva);focus repeat' constructor)|(apply Cl.p (hev);focus repeat' constructor))
  refine xW (hcl) ?_
  rintro _ _ ⟨v, L, rfl, hL, rfl⟩
  repeat' (first|refine Sp.h ?_|refine Lk.r rfl ?_|refine Rf.mk rfl ?_|refine xB ?_|refine xT ?_|refine xN ?_|fail)
  exact ⟨_, _, .tup (.same (.same (.z))), .inl ⟨v, L, rfl, rfl, rfl, hL⟩⟩
 have hF : applyF m l e = gatherF (cellsF (mrgF m) l (usF m e) e) := by rw [applyF, if_neg (fun h => h ⟨h1, h2⟩), if_neg (fun h => h hk)]
 rw [hF]
 have ha1 : 0 ≤ e.action := by
  have h9 := h2.1.2.2.2.2.2
  simp only [KindOK, Sub0, Btw] at h9
  omega
 have ha2 := h2.2.2 hk
 obtain ⟨a, ha⟩ := get_of (l := m.acts) (i := e.action.toNat) (by omega)
 obtain ⟨n, hn⟩ : ∃ n : Nat, e.action = n := ⟨e.action.toNat, by omega⟩
 have hus : usF m e = a.eff.updates := by rw [usF, ha]
 rw [hn] at ha
 rw [hus]
 have ha3 : m.acts[n]? = some a := by simpa using ha
 refine CallA.of pg ord105 Tryz.func105 rfl Tryz.ntmps105 Tryz.results105 rfl fun h0 G0 O0 => ?_
 repeat' (first|refine Sp.h ?_|refine Lk.r rfl ?_|refine Rf.mk rfl ?_|refine xA ?_|refine Im.mk fun _=>?_|refine All.mk fun _=>?_|refine xT ?_|refine Ch.l ⟨rfl, rfl⟩ ?_|(apply Cl.p (hva);focus repeat' constructor)|(apply Cl.p (hev);focus repeat' constructor))
 refine xW (hcl) ?_
 rintro _ _ ⟨v, L0, rfl, hL, rfl⟩
 repeat' (first|refine Sp.h ?_|refine Lk.r rfl ?_|refine Rf.mk rfl ?_|refine xA ?_|refine xT ?_|refine Ch.l ⟨rfl, rfl⟩ ?_|(apply Cl.p (hce);focus repeat' constructor))
 (apply Cl.use (hru);(focus repeat' (first|exact Lend.nil|fail));(focus (repeat (first|exact Takes.nil|(apply Takes.cons;(focus repeat constructor)))));(focus rfl))
 rintro _ _ ⟨br, kvs, rfl, rfl, hlk⟩
 repeat' (first|refine Sp.h ?_|refine Lk.r rfl ?_|refine Rf.mk rfl ?_|fail)
 refine MkM.r (fun u : UpS => AV.agg (updC u)) ?_
 repeat' (first|refine Sp.h ?_|refine Lk.r rfl ?_|refine Rf.mk rfl ?_|refine Im.mk fun _=>?_|refine All.mk fun _=>?_|refine xT ?_|(apply Ix.r;(focus assumption);(focus omega))|fail)
 refine CA.loop (fun i : Nat => ⟨[(5, pm _), (8, .ow v), (9, tbls (mrgF m)), (10, .val (.map (some br))), (11, .val (.map (some _))), (12, bl false), (53, .sl 3 a.eff.updates updC), (54, it (a.eff.updates.length : Nat)), (55, it i)],
   [arrR v 231 3 L0 mgeC, bunR (L0.map mgeR), mapR Tryz.prog br 227 kvs fnV, mapR Tryz.prog _ 3 (updT (a.eff.updates.take i)) (fun u : UpS => AV.agg (updC u)), blkR _ 66 (evC e)]⟩)
  (fun i => i ≤ a.eff.updates.length) (fun i => a.eff.updates.length - i) 0 xE (Nat.zero_le _) ?_
 intro i hi
 by_cases hin : i < a.eff.updates.length
 ·obtain ⟨u, hu⟩ := get_of hin
  have hsu := updT_succ hu
  repeat' (first|refine Sp.h ?_|refine Lk.r rfl ?_|refine Rf.mk rfl ?_|refine xA ?_|refine All.mk fun _=>?_|refine xT ?_|refine xI ?_|refine Ch.l ⟨rfl, rfl⟩ ?_|(apply SetAsk.r;focus repeat' constructor)|refine xN ?_|(apply Kf.mk;(focus kernel_rfl))|refine xM ?_|refine UpV.r rfl ?_|refine xO ?_|fail)
  rw [← hsu]
  exact PA.lp (i + 1) xE ⟨hin, by omega⟩
 ·have hie : i = a.eff.updates.length := by omega
  subst hie
  rw [List.take_length]
  have hlen : (mrgF m).length = l.length := h1.1
  obtain ⟨C, hC⟩ : ∃ C, C = cellsF (mrgF m) l a.eff.updates e := ⟨_, rfl⟩
  rw [← hC]
  (repeat' (first|(show CA _ _ (Code.region 13 _ _) _ _;apply Stopped.out)|refine Sp.h ?_|refine Lk.r rfl ?_|refine Rf.mk rfl ?_|refine xB ?_|fail));any_goals apply Stopped.mk
  refine CA.sub ⟨[(5, pm _), (8, .ow v), (9, tbls (mrgF m)), (10, .val (.map (some br))), (11, .val (.map (some _))), (12, bl false)],
   [arrR v 231 3 L0 mgeC, bunR (L0.map mgeR), mapR Tryz.prog br 227 kvs fnV, mapR Tryz.prog _ 3 (updT a.eff.updates) (fun u : UpS => AV.agg (updC u)), blkR _ 66 (evC e)]⟩ xE ?_
  repeat' (first|refine Sp.h ?_|refine Lk.r rfl ?_|refine Rf.mk rfl ?_|refine Im.mk fun _=>?_|fail)
  rename_i b5 _ bu _ _
  refine CA.loop (fun x : Nat × List MgE × Bool => ⟨[(5, pm b5), (8, .ow v), (10, .val (.map (some br))), (11, .val (.map (some bu))), (12, bl x.2.2), (64, tbls (mrgF m)), (65, it ((mrgF m).length : Nat)), (66, it x.1)],
    [arrR v 231 3 x.2.1 mgeC, bunR (x.2.1.map mgeR), mapR Tryz.prog br 227 kvs fnV, mapR Tryz.prog bu 3 (updT a.eff.updates) (fun u : UpS => AV.agg (updC u)), blkR b5 66 (evC e)]⟩)
   (fun x => x.1 ≤ l.length ∧ x.2.1.map MgE.g = (C.take x.1).map (·.2) ++ l.drop x.1 ∧ (∀ p ∈ C.take x.1, p.1 = 0 ∨ p.1 = 8) ∧ (x.2.2 = true ↔ ∃ p ∈ C.take x.1, p.1 = 8)) (fun x => l.length - x.1) (0, L0, false) xE ⟨Nat.zero_le _, by simpa using hL, by simp, by simp⟩ ?_
  rintro ⟨i, D, lg⟩ ⟨g1, g2, g3, g4⟩
  simp only at g1 g2 g3 g4
  simp only
  by_cases hin : i < l.length
  ·obtain ⟨g, hgi⟩ := get_of hin
   obtain ⟨t, hti, hvg⟩ := hg i g hgi
   have hq : C[i]? = some (cellF e t (updF a.eff.updates i) g) := by rw [hC];exact cellsF_at hti hgi
   have htl : (C.take i).length = i := by have := (List.getElem?_eq_some_iff.1 hq).1;simp;omega
   have hDi : (D.map MgE.g)[i]? = some g := by
    rw [g2, List.getElem?_append_right (by simp;omega), List.getElem?_drop, List.length_map, htl]
    simpa using hgi
   obtain ⟨x, hx, hxg⟩ : ∃ x, D[i]? = some x ∧ x.g = g := by
    rw [List.getElem?_map] at hDi
    cases hd : D[i]? with
    | none => rw [hd] at hDi;cases hDi
    | some x => rw [hd] at hDi;exact ⟨x, rfl, by simpa using hDi⟩
   have hDl := (List.getElem?_eq_some_iff.1 hx).1
   have hml : x.marks.length ≤ 1024 := by have := hvg.1.2.2.2;rw [← hxg] at this;exact this
   have hsrt : SrtK x.marks := by have := hvg.srt;rw [← hxg] at this;exact this
   have hreg := register_p t
   have hlu := updT_look a.eff.updates i
   have hbad : ∀ c y, cellF e t (updF a.eff.updates i) g = (c, y) → c ≠ 0 → c ≠ 8 → gatherF C = (c, []) := fun c y h h0 h8 => gather_bad (h ▸ hq) g3 h0 h8
   have hsame : D.set i x = D := by
    apply List.ext_getElem?
    intro j
    rw [List.getElem?_set]
    split
    ·rename_i hj;subst hj;first|rw [if_pos hDl, hx] | rw [hx]
    ·rfl
   (repeat' (first|(show CA _ _ (Code.block 3 _) _ _;apply Stopped.out)|refine Sp.h ?_|refine Lk.r rfl ?_|refine Rf.mk rfl ?_|refine xA ?_|fail));any_goals apply Stopped.mk
   apply CA.bunTake (l := D) (g := mgeR) (i := i) (x := x)
   focus (repeat constructor)
   focus exact hx
   refine CA.cut (fun p : List MgE × MgE × Bool => ⟨[(5, pm b5), (8, .ow v), (10, .val (.map (some br))), (11, .val (.map (some bu))), (12, bl p.2.2), (64, tbls (mrgF m)), (65, it ((mrgF m).length : Nat)), (66, it i)],
    [arrR v 231 3 p.1 mgeC, mgeR p.2.1, bunR ((D.eraseIdx i).map mgeR), mapR Tryz.prog br 227 kvs fnV, mapR Tryz.prog bu 3 (updT a.eff.updates) (fun u : UpS => AV.agg (updC u)), blkR b5 66 (evC e)]⟩)
    (fun p => p.1 = D.set i p.2.1 ∧ p.2.1.g = (cellF e t (updF a.eff.updates i) g).2 ∧ ((cellF e t (updF a.eff.updates i) g).1 = 0 ∧ p.2.2 = lg ∨ (cellF e t (updF a.eff.updates i) g).1 = 8 ∧ p.2.2 = true)) ?_ ?_
   ·cases hup : updF a.eff.updates i with
    | none =>
     rw [hup] at hlu
     rcases hz : lookL rulesL [t.kind, 0] with _|f0
     ·rw [← hlk] at hz
      repeat' (first|refine Sp.h ?_|refine Lk.r rfl ?_|refine Rf.mk rfl ?_|refine xB ?_|refine All.mk fun _=>?_|refine xT ?_|refine xI ?_|refine Ch.l ⟨rfl, rfl⟩ ?_|(apply SetAsk.r;focus repeat' constructor)|(apply Fk.r;focus repeat' first|infer_instance|constructor)|refine xN ?_|refine xK ?_|(apply Kf.mk;(focus kernel_rfl))|refine xM ?_|(apply Zx.agg;(focus rfl);(focus rfl);(focus repeat constructor))|apply Zx.one|(apply LkM.n;(focus first|assumption|rfl))|fail)
      all_goals exact PA.lp (D, x, lg) xE ⟨hsame.symm, hxg, .inl ⟨rfl, rfl⟩⟩
     ·rw [← hlk] at hz
      repeat' (first|refine Sp.h ?_|refine Lk.r rfl ?_|refine Rf.mk rfl ?_|refine xB ?_|refine All.mk fun _=>?_|refine xT ?_|refine xI ?_|refine Ch.l ⟨rfl, rfl⟩ ?_|(apply SetAsk.r;focus repeat' constructor)|(apply Fk.r;focus repeat' first|infer_instance|constructor)|refine xN ?_|refine xK ?_|(apply Kf.mk;(focus kernel_rfl))|refine xM ?_|(apply Zx.agg;(focus rfl);(focus rfl);(focus repeat constructor))|(apply LkM.s;(focus first|assumption|rfl))|(apply LkM.n;(focus first|assumption|rfl))|fail)
      all_goals exact PA.lp (D, x, lg) xE ⟨hsame.symm, hxg, .inl ⟨rfl, rfl⟩⟩
    | some u =>
     obtain ⟨uk, uc, uv⟩ := u
     rw [hup] at hlu hbad
     rcases rules_cases t.kind uk with hz|⟨k1, k2, hz⟩|⟨k1, k2, hz⟩|⟨k1, k2, hz⟩|⟨k1, k2, hz⟩|⟨k1, k2, hz⟩|⟨k1, k2, hz⟩
     ·have hcell := cellF_none (e := e) (g := g) (u := (uk, uc, uv)) hz
      rw [← hlk] at hz
      repeat' (first|refine Sp.h ?_|refine Lk.r rfl ?_|refine Rf.mk rfl ?_|refine xA ?_|refine xB ?_|refine All.mk fun _=>?_|refine xT ?_|refine xI ?_|refine Ch.l ⟨rfl, rfl⟩ ?_|(apply SetAsk.r;focus repeat' constructor)|(apply Fk.r;focus repeat' first|infer_instance|constructor)|refine xN ?_|refine xK ?_|(apply Kf.mk;(focus kernel_rfl))|refine xM ?_|apply Zx.one|(apply LkM.s;(focus first|assumption|rfl))|(apply LkM.n;(focus first|assumption|rfl))|fail)
      all_goals exact PA.lp (D, x, lg) xE ⟨hsame.symm, by rw [hcell];exact hxg, .inl ⟨by rw [hcell], rfl⟩⟩
     ·have hr : ¬ isReg t.kind := by unfold isReg;omega
      have hcell : cellF e t (some (uk, uc, uv)) g = ((addF x.marks ⟨e.rep, e.num, e.time, 0⟩).1, ⟨x.put, x.drop, (addF x.marks ⟨e.rep, e.num, e.time, 0⟩).2⟩) := by
       rw [← hxg];simp [cellF, k1, k2, isReg, MgE.g]
      have hcon := add_a v i e ⟨e.rep, e.num, e.time, 0⟩ D x hx (hsrt.mono _) hml
      rw [← hlk] at hz
      repeat' (first|refine Sp.h ?_|refine Lk.r rfl ?_|refine Rf.mk rfl ?_|refine xA ?_|refine xB ?_|refine OpK.r rfl ?_|refine All.mk fun _=>?_|refine xU ?_|refine xT ?_|refine xI ?_|refine Ch.l ⟨rfl, rfl⟩ ?_|(apply SetAsk.r;focus repeat' constructor)|(apply Fk.r;focus repeat' first|infer_instance|constructor)|refine xN ?_|refine xK ?_|(apply Kf.mk;(focus kernel_rfl))|refine xM ?_|(apply LkM.s;(focus first|assumption|rfl))|refine xD ?_|(apply Cl.p (hreg);focus repeat' constructor))
      refine xW (hcon) ?_
      rintro _ _ ⟨w', rfl, rfl⟩
      repeat' (first|refine Sp.h ?_|refine Lk.r rfl ?_|refine Rf.mk rfl ?_|(refine Bd.mk ?_ ?_ <;> intro _)|refine xN ?_|fail)
      ·exact PA.lp (D.set i ⟨x.put, x.drop, w', (addF x.marks ⟨e.rep, e.num, e.time, 0⟩).2⟩, ⟨x.put, x.drop, w', (addF x.marks ⟨e.rep, e.num, e.time, 0⟩).2⟩, lg) xE ⟨rfl, by rw [hcell];rfl, .inl ⟨by rw [hcell];assumption, rfl⟩⟩
      ·exact PA.lp (D.set i ⟨x.put, x.drop, w', (addF x.marks ⟨e.rep, e.num, e.time, 0⟩).2⟩, ⟨x.put, x.drop, w', (addF x.marks ⟨e.rep, e.num, e.time, 0⟩).2⟩, true) xE ⟨rfl, by rw [hcell];rfl, .inr ⟨by rw [hcell];assumption, rfl⟩⟩
      ·rw [hbad _ _ hcell (by assumption) (by assumption)]
       exact ⟨_, _, .tup (.same (.same (.z))), .inr ⟨by assumption, rfl, rfl⟩⟩
     ·have hr : ¬ isReg t.kind := by unfold isReg;omega
      have hcell : cellF e t (some (uk, uc, uv)) g = (0, ⟨false, x.drop, fgK e.past x.marks⟩) := by
       rw [← hxg];simp [cellF, k1, k2, MgE.g]
      have hcon := drop_a v i e ⟨e.rep, e.num, e.time, 0⟩ D x hx hml
      rw [← hlk] at hz
      repeat' (first|refine Sp.h ?_|refine Lk.r rfl ?_|refine Rf.mk rfl ?_|refine xA ?_|refine xB ?_|refine OpK.r rfl ?_|refine All.mk fun _=>?_|refine xU ?_|refine xT ?_|refine xI ?_|refine Ch.l ⟨rfl, rfl⟩ ?_|(apply SetAsk.r;focus repeat' constructor)|(apply Fk.r;focus repeat' first|infer_instance|constructor)|refine xN ?_|refine xK ?_|(apply Kf.mk;(focus kernel_rfl))|refine xM ?_|(apply LkM.s;(focus first|assumption|rfl))|refine xD ?_|(apply Cl.p (hreg);focus repeat' constructor))
      refine xW (hcon) ?_
      rintro _ _ ⟨rfl, w', rfl⟩
      repeat' (first|refine Sp.h ?_|refine Lk.r rfl ?_|refine Rf.mk rfl ?_|refine xA ?_|fail)
      exact PA.lp (D.set i ⟨false, x.drop, w', fgK e.past x.marks⟩, ⟨false, x.drop, w', fgK e.past x.marks⟩, lg) xE ⟨rfl, by rw [hcell];rfl, .inl ⟨by rw [hcell], rfl⟩⟩
     ·have hr : ¬ isReg t.kind := by unfold isReg;omega
      have hcell : cellF e t (some (uk, uc, uv)) g = (0, ⟨true, false, fgK e.past x.marks⟩) := by
       rw [← hxg];simp [cellF, k1, k2, MgE.g]
      have hcon := put_a v i e ⟨e.rep, e.num, e.time, 0⟩ D x hx hml
      rw [← hlk] at hz
      repeat' (first|refine Sp.h ?_|refine Lk.r rfl ?_|refine Rf.mk rfl ?_|refine xA ?_|refine xB ?_|refine OpK.r rfl ?_|refine All.mk fun _=>?_|refine xU ?_|refine xT ?_|refine xI ?_|refine Ch.l ⟨rfl, rfl⟩ ?_|(apply SetAsk.r;focus repeat' constructor)|(apply Fk.r;focus repeat' first|infer_instance|constructor)|refine xN ?_|refine xK ?_|(apply Kf.mk;(focus kernel_rfl))|refine xM ?_|(apply LkM.s;(focus first|assumption|rfl))|refine xD ?_|(apply Cl.p (hreg);focus repeat' constructor))
      refine xW (hcon) ?_
      rintro _ _ ⟨rfl, w', rfl⟩
      repeat' (first|refine Sp.h ?_|refine Lk.r rfl ?_|refine Rf.mk rfl ?_|refine xA ?_|fail)
      exact PA.lp (D.set i ⟨true, false, w', fgK e.past x.marks⟩, ⟨true, false, w', fgK e.past x.marks⟩, lg) xE ⟨rfl, by rw [hcell];rfl, .inl ⟨by rw [hcell], rfl⟩⟩
     ·have hr : ¬ isReg t.kind := by unfold isReg;omega
      have hcell : cellF e t (some (uk, uc, uv)) g = ((addF x.marks ⟨e.rep, e.num, e.time, 0⟩).1, ⟨x.put, x.drop, (addF x.marks ⟨e.rep, e.num, e.time, 0⟩).2⟩) := by
       rw [← hxg];simp [cellF, k1, k2, isReg, MgE.g]
      have hcon := add_a v i e ⟨e.rep, e.num, e.time, 0⟩ D x hx (hsrt.mono _) hml
      rw [← hlk] at hz
      repeat' (first|refine Sp.h ?_|refine Lk.r rfl ?_|refine Rf.mk rfl ?_|refine xA ?_|refine xB ?_|refine OpK.r rfl ?_|refine All.mk fun _=>?_|refine xU ?_|refine xT ?_|refine xI ?_|refine Ch.l ⟨rfl, rfl⟩ ?_|(apply SetAsk.r;focus repeat' constructor)|(apply Fk.r;focus repeat' first|infer_instance|constructor)|refine xN ?_|refine xK ?_|(apply Kf.mk;(focus kernel_rfl))|refine xM ?_|(apply LkM.s;(focus first|assumption|rfl))|refine xD ?_|(apply Cl.p (hreg);focus repeat' constructor))
      refine xW (hcon) ?_
      rintro _ _ ⟨w', rfl, rfl⟩
      repeat' (first|refine Sp.h ?_|refine Lk.r rfl ?_|refine Rf.mk rfl ?_|(refine Bd.mk ?_ ?_ <;> intro _)|refine xN ?_|fail)
      ·exact PA.lp (D.set i ⟨x.put, x.drop, w', (addF x.marks ⟨e.rep, e.num, e.time, 0⟩).2⟩, ⟨x.put, x.drop, w', (addF x.marks ⟨e.rep, e.num, e.time, 0⟩).2⟩, lg) xE ⟨rfl, by rw [hcell];rfl, .inl ⟨by rw [hcell];assumption, rfl⟩⟩
      ·exact PA.lp (D.set i ⟨x.put, x.drop, w', (addF x.marks ⟨e.rep, e.num, e.time, 0⟩).2⟩, ⟨x.put, x.drop, w', (addF x.marks ⟨e.rep, e.num, e.time, 0⟩).2⟩, true) xE ⟨rfl, by rw [hcell];rfl, .inr ⟨by rw [hcell];assumption, rfl⟩⟩
      ·rw [hbad _ _ hcell (by assumption) (by assumption)]
       exact ⟨_, _, .tup (.same (.same (.z))), .inr ⟨by assumption, rfl, rfl⟩⟩
     ·have hr : isReg t.kind := by unfold isReg;omega
      have hcell : cellF e t (some (uk, uc, uv)) g = ((lastF x.marks ⟨e.rep, e.num, e.time, uv⟩).1, ⟨x.put, x.drop, (lastF x.marks ⟨e.rep, e.num, e.time, uv⟩).2⟩) := by
       rw [← hxg];simp [cellF, k1, k2, isReg, MgE.g]
      have hcon := last_a v i e ⟨e.rep, e.num, e.time, uv⟩ D x hx hml
      rw [← hlk] at hz
      repeat' (first|refine Sp.h ?_|refine Lk.r rfl ?_|refine Rf.mk rfl ?_|refine xA ?_|refine OpK.r rfl ?_|refine All.mk fun _=>?_|refine xU ?_|refine xT ?_|refine xI ?_|refine Ch.l ⟨rfl, rfl⟩ ?_|refine xV ?_|(apply SetAsk.r;focus repeat' constructor)|(apply Fk.r;focus repeat' first|infer_instance|constructor)|refine xN ?_|refine xK ?_|(apply Kf.mk;(focus kernel_rfl))|refine xM ?_|(apply LkM.s;(focus first|assumption|rfl))|refine xD ?_|(apply Cl.p (hreg);focus repeat' constructor))
      refine xW (hcon) ?_
      rintro _ _ ⟨rfl, w', rfl⟩
      repeat' (first|refine Sp.h ?_|refine Lk.r rfl ?_|refine Rf.mk rfl ?_|(refine Bd.mk ?_ ?_ <;> intro _)|refine xN ?_|fail)
      ·exact PA.lp (D.set i ⟨x.put, x.drop, w', (lastF x.marks ⟨e.rep, e.num, e.time, uv⟩).2⟩, ⟨x.put, x.drop, w', (lastF x.marks ⟨e.rep, e.num, e.time, uv⟩).2⟩, lg) xE ⟨rfl, by rw [hcell];rfl, .inl ⟨by rw [hcell];assumption, rfl⟩⟩
      ·exact PA.lp (D.set i ⟨x.put, x.drop, w', (lastF x.marks ⟨e.rep, e.num, e.time, uv⟩).2⟩, ⟨x.put, x.drop, w', (lastF x.marks ⟨e.rep, e.num, e.time, uv⟩).2⟩, true) xE ⟨rfl, by rw [hcell];rfl, .inr ⟨by rw [hcell];assumption, rfl⟩⟩
      ·rw [hbad _ _ hcell (by assumption) (by assumption)]
       exact ⟨_, _, .tup (.same (.same (.z))), .inr ⟨by assumption, rfl, rfl⟩⟩
     ·have hr : isReg t.kind := by unfold isReg;omega
      have hcell : cellF e t (some (uk, uc, uv)) g = ((addF (fgK e.past x.marks) ⟨e.rep, e.num, e.time, uv⟩).1, ⟨x.put, x.drop, (addF (fgK e.past x.marks) ⟨e.rep, e.num, e.time, uv⟩).2⟩) := by
       rw [← hxg];simp [cellF, k1, k2, isReg, MgE.g]
      have hcon := multi_a v i e ⟨e.rep, e.num, e.time, uv⟩ D x hx hml ((hsrt.filter _).mono _)
      rw [← hlk] at hz
      repeat' (first|refine Sp.h ?_|refine Lk.r rfl ?_|refine Rf.mk rfl ?_|refine xA ?_|refine OpK.r rfl ?_|refine All.mk fun _=>?_|refine xU ?_|refine xT ?_|refine xI ?_|refine Ch.l ⟨rfl, rfl⟩ ?_|refine xV ?_|(apply SetAsk.r;focus repeat' constructor)|(apply Fk.r;focus repeat' first|infer_instance|constructor)|refine xN ?_|refine xK ?_|(apply Kf.mk;(focus kernel_rfl))|refine xM ?_|(apply LkM.s;(focus first|assumption|rfl))|refine xD ?_|(apply Cl.p (hreg);focus repeat' constructor))
      refine xW (hcon) ?_
      rintro _ _ ⟨rfl, w', rfl⟩
      repeat' (first|refine Sp.h ?_|refine Lk.r rfl ?_|refine Rf.mk rfl ?_|(refine Bd.mk ?_ ?_ <;> intro _)|refine xN ?_|fail)
      ·exact PA.lp (D.set i ⟨x.put, x.drop, w', (addF (fgK e.past x.marks) ⟨e.rep, e.num, e.time, uv⟩).2⟩, ⟨x.put, x.drop, w', (addF (fgK e.past x.marks) ⟨e.rep, e.num, e.time, uv⟩).2⟩, lg) xE ⟨rfl, by rw [hcell];rfl, .inl ⟨by rw [hcell];assumption, rfl⟩⟩
      ·exact PA.lp (D.set i ⟨x.put, x.drop, w', (addF (fgK e.past x.marks) ⟨e.rep, e.num, e.time, uv⟩).2⟩, ⟨x.put, x.drop, w', (addF (fgK e.past x.marks) ⟨e.rep, e.num, e.time, uv⟩).2⟩, true) xE ⟨rfl, by rw [hcell];rfl, .inr ⟨by rw [hcell];assumption, rfl⟩⟩
      ·rw [hbad _ _ hcell (by assumption) (by assumption)]
       exact ⟨_, _, .tup (.same (.same (.z))), .inr ⟨by assumption, rfl, rfl⟩⟩
   ·rintro ⟨D', x', lg'⟩ ⟨hD', hx', hc⟩
    simp only at hD' hx' hc
    subst hD'
    simp only
    have htk : C.take (i + 1) = C.take i ++ [cellF e t (updF a.eff.updates i) g] := by rw [List.take_add_one, hq];rfl
    have hdr : l.drop i = g :: l.drop (i + 1) := by
     have h9 := List.drop_eq_getElem_cons hin
     rw [(List.getElem?_eq_some_iff.1 hgi).2] at h9
     exact h9
    have hA : (D.set i x').map MgE.g = (C.take (i + 1)).map (·.2) ++ l.drop (i + 1) := by
     rw [List.map_set, g2, hx', hdr, List.set_append, if_neg (by rw [List.length_map, htl];omega), List.length_map, htl, Nat.sub_self, List.set_cons_zero, htk]
     simp
    have hB : ∀ p ∈ C.take (i + 1), p.1 = 0 ∨ p.1 = 8 := fun p hp => by
     rw [htk] at hp
     rcases List.mem_append.1 hp with h9|h9
     ·exact g3 p h9
     ·rw [List.mem_singleton.1 h9]
      exact hc.imp (·.1) (·.1)
    have hE : lg' = true ↔ ∃ p ∈ C.take (i + 1), p.1 = 8 := by
     rw [htk]
     rcases hc with ⟨c1, rfl⟩|⟨c1, rfl⟩
     ·rw [g4]
      constructor
      ·rintro ⟨p, hp, h8⟩
       exact ⟨p, by simp [hp], h8⟩
      ·rintro ⟨p, hp, h8⟩
       rcases List.mem_append.1 hp with h9|h9
       ·exact ⟨p, h9, h8⟩
       ·rw [List.mem_singleton.1 h9, c1] at h8;cases h8
     ·exact ⟨fun _ => ⟨_, by simp, c1⟩, fun _ => rfl⟩
    (repeat' (first|(show CA _ _ (Code.region 28 _ _) _ _;apply Stopped.out)|refine Sp.h ?_|fail));any_goals apply Stopped.mk
    apply CA.bunPut (l := D) (g := mgeR) (i := i) (x := x')
    focus (repeat constructor)
    focus (repeat constructor)
    focus exact hDl
    repeat' (first|refine Sp.h ?_|refine Lk.r rfl ?_|refine Rf.mk rfl ?_|refine xO ?_|fail)
    exact PA.lp (i + 1, D.set i x', lg') xE ⟨⟨hin, hA, hB, hE⟩, by simp only;omega⟩
  ·have hie : i = l.length := by omega
   subst hie
   have hCl : C.length = l.length := by rw [hC];exact cellsF_len
   rw [← hCl, List.take_length] at g3 g4
   rw [← hCl, List.take_length, hCl, List.drop_length, List.append_nil] at g2
   cases lg with
   | true =>
    have hG : gatherF C = (8, []) := by rw [gather_end g3, if_pos (g4.1 rfl)]
    rw [hG]
    repeat' (first|refine Sp.h ?_|refine Lk.r rfl ?_|refine Rf.mk rfl ?_|refine xB ?_|refine xN ?_|fail)
    exact ⟨_, _, .tup (.same (.same (.z))), .inr ⟨by decide, rfl, rfl⟩⟩
   | false =>
    have hG : gatherF C = (0, C.map (·.2)) := by rw [gather_end g3, if_neg (fun h9 => by have := g4.2 h9;cases this)]
    rw [hG]
    repeat' (first|refine Sp.h ?_|refine Lk.r rfl ?_|refine Rf.mk rfl ?_|refine xB ?_|refine xN ?_|fail)
    exact ⟨_, _, .tup (.same (.same (.z))), .inl ⟨v, D, rfl, rfl, rfl, g2⟩⟩
end Go.Proofs.YtmjllbjfkafhdaaGreatDoor
namespace Go.Proofs.YtmjllbjfkafhdaaGreatDoor
open Go Go.CF
set_option maxRecDepth 20000
structure NowS where
 clock : List Int
 time : Int
 state : List Int
 merged : List MgS
 places : List Int
def cntF (c : List Int) (e : EvS) : List Int := c.set e.rep.toNat (max (c[e.rep.toNat]?.getD 0) e.num)
def dltF (m : ModS) (e : EvS) : List (Int × Int) := match m.acts[e.action.toNat]? with
 | some a => a.eff.delta
 | none => []
def add1 (s : List Int) (p : Int × Int) : List Int := s.set p.1.toNat (IntKind.i64.wrap ((s[p.1.toNat]?.getD 0) + p.2))
def addD (s : List Int) (d : List (Int × Int)) : List Int := d.foldl add1 s
def addE (m : ModS) (s : List Int) (e : EvS) : List Int := if e.kind = 0 then addD s (dltF m e) else s
def insS (l : List Int) : Prop := ∀ x ∈ l, -1000000000 ≤ x ∧ x ≤ 1000000000
noncomputable instance (l : List Int) : Decidable (insS l) := Classical.propDecidable _
def withP (l : List Int) (n : Int) : List Int := if n ∈ l then l else l.filter (· < n) ++ n :: l.filter (n < ·)
def plE (l : List Int) (e : EvS) : List Int := if 0 < e.place then withP l e.place else l
def LateE (evs : List EvS) (e : EvS) : Prop := ∃ x ∈ evs, HasC e.past x.rep x.num ∧ e.time ≤ x.time
noncomputable instance (evs : List EvS) (e : EvS) : Decidable (LateE evs e) := Classical.propDecidable _
noncomputable def deliverF (m : ModS) (evs : List EvS) (w : NowS) (e : EvS) : Int × NowS :=
 if ¬ EvV m (w.clock.length : Nat) e then (1, w)
 else if HasC w.clock e.rep e.num then (6, w)
 else if ¬ Ins e.past w.clock then (9, w)
 else if LateE evs e then (2, w)
 else if e.kind = 0 ∧ ¬ insS (addE m w.state e) then (2, w)
 else if (applyF m w.merged e).1 ≠ 0 then ((applyF m w.merged e).1, w)
 else (0, ⟨cntF w.clock e, max w.time e.time, addE m w.state e, (applyF m w.merged e).2, plE w.places e⟩)
end Go.Proofs.YtmjllbjfkafhdaaGreatDoor
namespace Go.CF
open Go
structure ALe (a b : AV) : Prop where
 le : ∀ {h : Heap} {G : Nat → Prop} {v : Value}, a.R h G v → b.R h G v
theorem ALe.refl (a : AV) : ALe a a := ⟨fun h => h⟩
theorem ALe.nil {α : Type} {sz : Nat} {f : α → List AV} : ALe (.val (.slice none 0 0)) (.sl sz [] f) := ⟨fun h => by
 have h : _ = _ := h
 subst h
 exact ⟨by simp, .inl ⟨rfl, none, 0, rfl⟩⟩⟩
inductive RLe : List AV → List AV → Prop where
 | nil : RLe [] []
 | cons {a b : AV} {l m : List AV} : ALe a b → RLe l m → RLe (a :: l) (b :: m)
theorem RLe.rep {h : Heap} {G : Nat → Prop} {l m : List AV} (x : RLe l m) : ∀ {vs : List Value}, RepT h G vs l → RepT h G vs m := by
 induction x with
 | nil => exact fun hr => hr
 | cons ha _ ih =>
  intro vs hr
  match vs, hr with
  | v :: vs, ⟨h1, h2⟩ => exact ⟨ha.le h1, ih h2⟩
theorem ALe.sl {α β : Type} {sz : Nat} {l : List α} {f : α → List AV} {ys : List β} {g : β → List AV} (hl : l.length = ys.length) (hr : ∀ (i : Nat) x y, l[i]? = some x → ys[i]? = some y → RLe (f x) (g y)) : ALe (.sl sz l f) (.sl sz ys g) := ⟨fun {h G v} hv => by
 obtain ⟨h1, ⟨h2, p, cap, h3⟩|⟨b, o, cap, rows, h2, h3, h4, h5, h6, h7, h8⟩⟩ := hv
 ·subst h2
  exact ⟨by rw [← hl];exact h1, .inl ⟨List.eq_nil_of_length_eq_zero (by rw [← hl];rfl), p, cap, h3⟩⟩
 ·refine ⟨by rw [← hl];exact h1, .inr ⟨b, o, cap, rows, by rw [← hl];exact h2, by rw [← hl];exact h3, by rw [← hl];exact h4, h5, h6, h7, ⟨by rw [h8.len, hl], fun i r y g1 g2 => ?_, h8.sz⟩⟩⟩
  have hi := (List.getElem?_eq_some_iff.1 g2).1
  have hx : l[i]? = some (l[i]'(by omega)) := List.getElem?_eq_getElem _
  have g3 := h8.row i r _ g1 hx
  exact ⟨(hr i _ y hx g2).rep g3.t, g3.one⟩⟩
theorem CallA.conv {P : Program} {f : FuncId} {asx : List AV} {own : List Res} {a b : AV} (hab : ALe a b) (h : CallA P f asx own fun q o => q = a ∧ o = []) : CallA P f asx own fun q o => q = b ∧ o = [] :=
 ⟨fun hh G Os vs h1 h2 => (h.run hh G Os vs h1 h2).mono fun v' h' ⟨r, o, G', Os', ⟨e1, e2⟩, g1, g2⟩ => by
  subst e1;subst e2
  exact ⟨_, _, _, _, ⟨rfl, rfl⟩, hab.le g1, g2⟩⟩
section
variable {k : List KI} {e : EA} {o : List Res}
end
end Go.CF
namespace Go.CF
open Go
inductive FX : List Res → List AV → List AV → List Res → Prop where
 | nil {o : List Res} : FX o [] [] o
 | le {o own : List Res} {a b : AV} {l l' : List AV} : ALe a b → FX o l l' own → FX o (a :: l) (b :: l') own
 | agg {o o1 own : List Res} {cs cs' l l' : List AV} : FX o cs cs' o1 → FX o1 l l' own → FX o (.agg cs :: l) (.agg cs' :: l') own
 | tup {o o1 own : List Res} {cs cs' l l' : List AV} : FX o cs cs' o1 → FX o1 l l' own → FX o (.tup cs :: l) (.tup cs' :: l') own
 | unb {o rest own rs : List Res} {l l' : List AV} : Take o (bunR rs) rest → FX (rs ++ rest) l l' own → FX o l l' own
 | sl {o rest o1 own : List Res} {l l' : List AV} {α β : Type} {v : Value} {T sz : Nat} {xs : List α} {f : α → List AV} {ys : List β} {g : β → List AV} :
   Take o (arrR v T sz xs f) rest → xs.length ≤ 9223372036854775807 → FX rest (xs.map fun x => .agg (f x)) (ys.map fun y => .agg (g y)) o1 → FX o1 l l' own → FX o (.ow v :: l) (.sl sz ys g :: l') own
theorem FX.len {o own : List Res} {l l' : List AV} (x : FX o l l' own) : l.length = l'.length := by
 induction x with
 | nil => rfl
 | le _ _ ih => simp [ih]
 | agg _ _ _ ih => simp [ih]
 | tup _ _ _ ih => simp [ih]
 | unb _ _ ih => exact ih
 | sl _ _ _ _ _ ih => simp [ih]
theorem RepLL.aggs {h : Heap} {G : Nat → Prop} {α : Type} {f : α → List AV} : ∀ {rows : List (List Value)} {l : List α}, RepLL h G rows (l.map f) → RepT h G (rows.map fun r => .agg r.toArray) (l.map fun x => .agg (f x))
 | [], [], _ => trivial
 | _ :: _, _ :: _, ⟨h1, h2⟩ => ⟨⟨_, rfl, h1⟩, RepLL.aggs h2⟩
 | [], _ :: _, h => h.elim
 | _ :: _, [], h => h.elim
theorem RepLL.unaggs {h : Heap} {G : Nat → Prop} {α : Type} {f : α → List AV} : ∀ {rows : List (List Value)} {l : List α}, RepT h G (rows.map fun r => .agg r.toArray) (l.map fun x => .agg (f x)) → RepLL h G rows (l.map f)
 | [], [], _ => trivial
 | v :: vs, x :: l, ⟨⟨ws, e, h1⟩, h2⟩ => by
  have e' : v = ws := by
   have := congrArg (fun u => match u with|Value.agg a => a.toList|_ => []) e
   simpa using this
  subst e'
  exact ⟨h1, RepLL.unaggs h2⟩
 | [], _ :: _, h => h.elim
 | _ :: _, [], h => h.elim
theorem FX.rep {h0 : Heap} {G0 O0 : Nat → Prop} {h : Heap} {o own : List Res} {l l' : List AV} (x : FX o l l' own) : ∀ {G : Nat → Prop} {Os : List (Nat → Prop)} {vs : List Value}, HpOK h0 G0 O0 o h G Os → RepT h G vs l → ∃ G' Os', HpOK h0 G0 O0 own h G' Os' ∧ RepT h G' vs l' ∧ ∀ b, G b → G' b := by
 induction x with
 | nil => exact fun {G Os vs} c hr => ⟨G, Os, c, hr, fun _ h => h⟩
 | le ha _ ih =>
  intro G Os vs c hr
  match vs, hr with
  | v :: vs, ⟨r1, r2⟩ =>
   obtain ⟨G', Os', h1, h2, h3⟩ := ih c r2
   exact ⟨G', Os', h1, ⟨AV.mono _ h3 (ha.le r1), h2⟩, h3⟩
 | agg _ _ ih1 ih =>
  intro G Os vs c hr
  match vs, hr with
  | v :: vs, ⟨⟨ws, r1, r3⟩, r2⟩ =>
   obtain ⟨G1, Os1, h1, h2, h3⟩ := ih1 c r3.t
   obtain ⟨G2, Os2, h4, h5, h6⟩ := ih h1 (r2.mono h3)
   exact ⟨G2, Os2, h4, ⟨⟨ws, r1, h2.mono h6, r3.one⟩, h5⟩, fun b hb => h6 b (h3 b hb)⟩
 | tup _ _ ih1 ih =>
  intro G Os vs c hr
  match vs, hr with
  | v :: vs, ⟨⟨ws, r1, r3⟩, r2⟩ =>
   obtain ⟨G1, Os1, h1, h2, h3⟩ := ih1 c r3
   obtain ⟨G2, Os2, h4, h5, h6⟩ := ih h1 (r2.mono h3)
   exact ⟨G2, Os2, h4, ⟨⟨ws, r1, h2.mono h6⟩, h5⟩, fun b hb => h6 b (h3 b hb)⟩
 | unb tk _ ih =>
  intro G Os vs c hr
  obtain ⟨O, os', c2⟩ := c.take tk
  obtain ⟨A, _, g2⟩ := c2.unbun
  exact ih g2 hr
 | sl tk hl hf _ ih1 ih =>
  intro G Os vs c hr
  match vs, hr with
  | v :: vs, ⟨⟨r1, _⟩, r2⟩ =>
   subst r1
   obtain ⟨O, os', c2⟩ := c.take tk
   have hrr := c2.own.1
   have hlen : _ = _ := hf.len
   simp only [List.length_map] at hlen
   obtain ⟨g1, ⟨g2, p, cap, g3⟩|⟨b, of, cap, rows, g2, g3, g4, g5, g6, g7, g8⟩⟩ := sl_of_own hrr hl
   ·obtain ⟨G1, Os1, h1, _, h3⟩ := ih1 (vs := []) c2.freeze (by rw [g2];trivial)
    obtain ⟨G2, Os2, h4, h5, h6⟩ := ih h1 (r2.mono fun b hb => h3 b (.inl hb))
    refine ⟨G2, Os2, h4, ⟨⟨by omega, .inl ⟨List.eq_nil_of_length_eq_zero (by rw [← hlen, g2];rfl), p, cap, g3⟩⟩, h5⟩, fun b hb => h6 b (h3 b (.inl hb))⟩
   ·obtain ⟨G1, Os1, h1, h2, h3⟩ := ih1 c2.freeze (RepLL.of g8).aggs
    obtain ⟨G2, Os2, h4, h5, h6⟩ := ih h1 (r2.mono fun b hb => h3 b (.inl hb))
    refine ⟨G2, Os2, h4, ⟨⟨by omega, .inr ⟨b, of, cap, rows, by rw [← hlen];exact g2, by omega, by omega, h6 _ (h3 _ g5), g6, g7, (RepLL.to (RepLL.unaggs h2) g8.sz).mono h6⟩⟩, h5⟩, fun b hb => h6 b (h3 b (.inl hb))⟩
theorem CallA.fx {P : Program} {f : FuncId} {asx : List AV} {own : List Res} {K : AV → List Res → Prop} {a : AV} (h : CallA P f asx own K) (hK : ∀ r o, K r o → FX o [r] [a] []) : CallA P f asx own fun q o => q = a ∧ o = [] :=
 ⟨fun hh G Os vs h1 h2 => (h.run hh G Os vs h1 h2).mono fun v' h' ⟨r, o, G', Os', hk, g1, g2⟩ => by
  obtain ⟨G2, Os2, k1, k2, k3⟩ := (hK r o hk).rep g2 (vs := [v']) ⟨g1, trivial⟩
  exact ⟨a, [], G2, Os2, ⟨rfl, rfl⟩, k2.1, k1⟩⟩
theorem FX.refl {o : List Res} : ∀ l : List AV, FX o l l o
 | [] => .nil
 | a :: l => .le (ALe.refl a) (FX.refl l)
theorem FX.rows {α β : Type} {r : α → Res} {f : α → List AV} {g : β → List AV} {φ : α → β} {o : List Res} : ∀ L : List α, (∀ x ∈ L, ∀ o', FX (r x :: o') (f x) (g (φ x)) o') → FX (L.map r ++ o) (L.map fun x => .agg (f x)) ((L.map φ).map fun y => .agg (g y)) o
 | [], _ => .nil
 | x :: L, hf => .agg (hf x (by simp) _) (FX.rows L fun y hy => hf y (by simp [hy]))
theorem CA.freezeX {P : Program} {tt : Nat → Option TI} {en : Nat → Bool} {ok : PgOK P tt en} {T0 : Nat → Ord × (Nat → Cls)} {m0 : Nat} {rs : Array ResultVar} {K : AV → List Res → Prop} {h0 : Heap} {G0 O0 : Nat → Prop} {k : List KI} {e : EA} {o : List Res} {y : Code} (t : Tmp) {a b : AV} {rest : List Res} (ht : lookA e t = some a) (x : FX o [a] [b] rest)
  (h : CA ⟨P, tt, en, ok, T0, m0, rs, K, h0, G0, O0, ⟨none⟩⟩ k y ((t, b) :: e) rest) : CA ⟨P, tt, en, ok, T0, m0, rs, K, h0, G0, O0, ⟨none⟩⟩ k y e o := by
 refine ⟨fun env hh G Os cn => ?_⟩
 obtain ⟨w', e1, e2⟩ := cn.env t _ ht
 obtain ⟨G', Os3, k1, k2, k3⟩ := x.rep cn.hp (vs := [w']) ⟨e2, trivial⟩
 have c4 : Con ⟨P, tt, en, ok, T0, m0, rs, K, h0, G0, O0, ⟨none⟩⟩ ⟨e, rest⟩ env hh G' Os3 := ⟨k1, fun q c hq => by
  obtain ⟨u, q1, q2⟩ := cn.env q c hq
  exact ⟨u, q1, AV.mono _ k3 q2⟩, FpOK.none rfl⟩
 exact h.h env hh G' Os3 (con_re c4 t (fun w hw => by rw [hw] at e1;cases e1;exact k2.1) ht)
theorem Cl.fx {Γ : Cx} {c : Cls} {f : FuncId} {asx : List AV} (as' : List AV) {o own : List Res} {M : AV → List Res → Prop} (x : FX o asx as' own) (hc : Cl Γ c f as' own M) : Cl Γ c f asx o M := by
 refine ⟨fun {h G Os vs} hp hr => ?_⟩
 obtain ⟨G1, Os1, k1, k2, k3⟩ := x.rep hp hr
 refine (hc.ok k1 k2).mono fun v h' ⟨g1, r, o', G', Os', g2, g3, g4, g5, g6⟩ => ?_
 exact ⟨g1, r, o', G', Os', g2, g3, g4, g5.mono k3, fun b hb => g6 b (k3 b hb)⟩
end Go.CF
namespace Go.Proofs.YtmjllbjfkafhdaaGreatDoor
open Go Go.CF
set_option maxRecDepth 20000
def mg0 : MgS := ⟨false, false, []⟩
theorem new_p (m : ModS) (hm : LayOK m.sorts m.tables) : CallP Tryz.prog 89 [mdl m] (mgs (List.replicate (mrgF m).length mg0)) := by
 have hc := cells_p m hm
 have hle := mrgF_le hm
 refine CallA.conv (a := .sl 3 (List.replicate (mrgF m).length ()) fun _ => [bl false, bl false, .val (.slice none 0 0)]) (ALe.sl (by simp) fun i x y _ hy => ?_) (CallA.fz (T := 231) (by simp;omega) ?_)
 ·have : y = mg0 := (List.mem_replicate.1 (List.mem_of_getElem? hy)).2
  subst this
  exact .cons (ALe.refl _) (.cons (ALe.refl _) (.cons ALe.nil .nil))
 ·refine CallA.of pg ord89 Tryz.func89 rfl Tryz.ntmps89 Tryz.results89 rfl fun h0 G0 O0 => ?_
  repeat' (first|refine Sp.h ?_|refine Lk.r rfl ?_|refine Rf.mk rfl ?_|refine Im.mk fun _=>?_|refine All.mk fun _=>?_|refine xT ?_|refine Ch.l ⟨rfl, rfl⟩ ?_|refine xN ?_|refine Rf.mk ⟨rfl, rfl, rfl⟩ ?_|(apply Jx.r;(focus exact rfl);(focus first|omega|(simp;done)|(simp;omega)))|(apply Cl.p (hc);focus repeat' constructor))
  refine CF.MkS.r (fun _ : Unit => [bl false, bl false, .val (.slice none 0 0)]) () rfl ?_
  repeat' (first|refine Sp.h ?_|refine Lk.r rfl ?_|refine All.mk fun _=>?_|refine xN ?_|fail)
  exact ⟨_, _, .one (.same (.z)), _, rfl, rfl⟩
abbrev nl0 : AV := .val (.slice none 0 0)
end Go.Proofs.YtmjllbjfkafhdaaGreatDoor
namespace Go.Proofs.YtmjllbjfkafhdaaGreatDoor
open Go Go.CF
set_option maxRecDepth 20000
theorem bit_a (b : Bool) : CallA Tryz.prog 231 [bl b] [] fun r own => ∃ v, r = .ow v ∧ own = [arrR v 3 1 [[it (if b = true then 1 else 0)]] id] := by
 refine CallA.of pg ord231 Tryz.func231 rfl Tryz.ntmps231 Tryz.results231 rfl fun h0 G0 O0 => ?_
 cases b with
 | true =>
  repeat' (first|refine Sp.h ?_|refine Lk.r rfl ?_|refine Rf.mk rfl ?_|refine All.mk fun _=>?_|(apply Fk.r;focus repeat' first|infer_instance|constructor)|refine xN ?_|refine Rf.mk ⟨rfl, rfl, rfl⟩ ?_|fail)
  exact ⟨_, _, .one (.same (.z)), _, rfl, rfl⟩
 | false =>
  repeat' (first|refine Sp.h ?_|refine Lk.r rfl ?_|refine Rf.mk rfl ?_|refine All.mk fun _=>?_|(apply Fk.r;focus repeat' first|infer_instance|constructor)|refine xN ?_|refine Rf.mk ⟨rfl, rfl, rfl⟩ ?_|fail)
  exact ⟨_, _, .one (.same (.z)), _, rfl, rfl⟩
theorem bit_p (b : Bool) : CallP Tryz.prog 231 [bl b] (ints [if b = true then 1 else 0]) :=
 CallA.fx (bit_a b) fun _ _ ⟨_, e1, e2⟩ => by
  subst e1;subst e2
  exact .sl .here (Nat.le_of_ble_eq_true rfl) (.agg (.le (ALe.refl _) .nil) .nil) .nil
def setB (t : TblS) (g : MgS) : Bool := if t.kind = 2 then g.put || decide (0 < g.marks.length) else g.put && !g.drop && decide (g.marks.length = 0)
def setV (t : TblS) (g : MgS) : List Int := [if setB t g = true then 1 else 0]
theorem valuesS_p (t : TblS) (g : MgS) (h : t.kind = 2 ∨ t.kind = 3) : CallP Tryz.prog 193 [.agg (tblC t), .agg (mgC g)] (ints (setV t g)) := by
 obtain ⟨put, drop, l⟩ := g
 rcases h with h|h
 ·have hB : setB t ⟨put, drop, l⟩ = (put || decide (0 < l.length)) := if_pos h
  refine CallA.of pg ord193 Tryz.func193 rfl Tryz.ntmps193 Tryz.results193 rfl fun h0 G0 O0 => ?_
  cases put with
  | true =>
   repeat' (first|refine Sp.h ?_|refine Lk.r rfl ?_|refine Rf.mk rfl ?_|refine xA ?_|refine All.mk fun _=>?_|refine xT ?_|refine xN ?_|(apply Cl.p (bit_p _);focus repeat' constructor))
   exact Fin.p rfl (congrArg ints (by unfold setV;rw [hB];simp))
  | false =>
   repeat' (first|refine Sp.h ?_|refine Lk.r rfl ?_|refine Rf.mk rfl ?_|refine xA ?_|refine Im.mk fun _=>?_|refine All.mk fun _=>?_|refine xT ?_|refine xN ?_|(apply Cl.p (bit_p _);focus repeat' constructor))
   exact Fin.p rfl (congrArg ints (by unfold setV;rw [hB];simp))
 ·have hB : setB t ⟨put, drop, l⟩ = (put && !drop && decide (l.length = 0)) := if_neg (by omega)
  refine CallA.of pg ord193 Tryz.func193 rfl Tryz.ntmps193 Tryz.results193 rfl fun h0 G0 O0 => ?_
  cases put with
  | true =>
   cases drop with
   | true =>
    repeat' (first|refine Sp.h ?_|refine Lk.r rfl ?_|refine Rf.mk rfl ?_|refine xA ?_|refine xB ?_|refine All.mk fun _=>?_|refine xT ?_|refine xN ?_|(apply Cl.p (bit_p _);focus repeat' constructor))
    exact Fin.p rfl (congrArg ints (by unfold setV;rw [hB];simp))
   | false =>
    repeat' (first|refine Sp.h ?_|refine Lk.r rfl ?_|refine Rf.mk rfl ?_|refine xA ?_|refine xB ?_|refine Im.mk fun _=>?_|refine All.mk fun _=>?_|refine xT ?_|refine xN ?_|(apply Cl.p (bit_p _);focus repeat' constructor))
    exact Fin.p rfl (congrArg ints (by unfold setV;rw [hB];simp))
  | false =>
   repeat' (first|refine Sp.h ?_|refine Lk.r rfl ?_|refine Rf.mk rfl ?_|refine xA ?_|refine xB ?_|refine All.mk fun _=>?_|refine xT ?_|refine xN ?_|(apply Cl.p (bit_p _);focus repeat' constructor))
   exact Fin.p rfl (congrArg ints (by unfold setV;rw [hB];simp))
end Go.Proofs.YtmjllbjfkafhdaaGreatDoor
namespace Go.Proofs.YtmjllbjfkafhdaaGreatDoor
open Go Go.CF
set_option maxRecDepth 20000
def tR : TblS := ⟨⟨#[114]⟩, 3, [], 0, 1, 1⟩
def k1 : MkS := ⟨0, 1, 1, 0⟩
def k2 : MkS := ⟨1, 1, 1, 0⟩
def k3 : MkS := ⟨0, 2, 2, 0⟩
def L0 : List MgS := [mg0, mg0]
def L1 : List MgS := [⟨false, false, [k1]⟩, ⟨true, false, []⟩]
def L2 : List MgS := [⟨false, false, [k1]⟩, ⟨true, false, [k2]⟩]
end Go.Proofs.YtmjllbjfkafhdaaGreatDoor
namespace Go.Proofs.YtmjllbjfkafhdaaGreatDoor
open Go Go.CF
set_option maxRecDepth 20000
theorem out_fx {v : Value} {L : List MgE} (hl : L.length ≤ 1000000) (hm : ∀ x ∈ L, x.marks.length ≤ 1000000) {l l' : List AV} {own : List Res} (ht : FX [] l l' own) : FX (outR v L) (.ow v :: l) (mgs (L.map MgE.g) :: l') own := by
 refine .sl .here (by omega) (.unb .here ?_) ht
 refine FX.rows (o := []) (r := mgeR) (f := mgeC) (g := mgC) (φ := MgE.g) L fun x hx o' => ?_
 have := hm x hx
 exact .le (ALe.refl _) (.le (ALe.refl _) (.sl .here (by omega) (FX.refl _) .nil))
theorem applyOK_p (m : ModS) (l : List MgS) (e : EvS) (F : List MgS) (hm : MOK m) (hF : applyF m l e = (0, F)) (hl : F.length ≤ 1000000) (hk : ∀ g ∈ F, g.marks.length ≤ 1000000) :
  CallP Tryz.prog 105 [mdl m, mgs l, evA' e] (.tup [mgs F, it 0]) := by
 refine CallA.fx (apply_a m l e hm) ?_
 rw [hF]
 rintro r o (⟨v, L, _, rfl, rfl, hL⟩|⟨h, _⟩)
 ·have hL : L.map MgE.g = F := hL
  subst hL
  exact .tup (out_fx (by simpa using hl) (fun x hx => hk x.g (List.mem_map_of_mem hx)) (FX.refl _)) .nil
 ·exact absurd rfl h
end Go.Proofs.YtmjllbjfkafhdaaGreatDoor
namespace Go.Proofs.YtmjllbjfkafhdaaGreatDoor
open Go Go.CF
set_option maxRecDepth 20000
theorem out_fx2 {v : Value} {L : List MgE} {o rest rest2 : List Res} (tk1 : Take o (arrR v 231 3 L mgeC) rest) (tk2 : Take rest (bunR (L.map mgeR)) rest2) (hl : L.length ≤ 1000000) (hm : ∀ x ∈ L, x.marks.length ≤ 1000000) {l l' : List AV} {own : List Res} (ht : FX rest2 l l' own) : FX o (.ow v :: l) (mgs (L.map MgE.g) :: l') own := by
 refine .sl tk1 (by omega) (.unb tk2 ?_) ht
 refine FX.rows (o := rest2) (r := mgeR) (f := mgeC) (g := mgC) (φ := MgE.g) L fun x hx o' => ?_
 have := hm x hx
 exact .le (ALe.refl _) (.le (ALe.refl _) (.sl .here (by omega) (FX.refl _) .nil))
theorem addF_len (l : List MkS) (m : MkS) : (addF l m).2.length ≤ l.length + 1 := by
 unfold addF
 split
 ·simp
 ·split
  ·simp
  ·simp [insK];omega
theorem cellF_len {e : EvS} {t : TblS} {u : Option UpS} {g : MgS} : (cellF e t u g).2.marks.length ≤ g.marks.length + 1 := by
 have hf : (fgK e.past g.marks).length ≤ g.marks.length := List.length_filter_le _ _
 match u with
 | none => simp [cellF]
 | some u =>
  simp only [cellF]
  split
  ·exact addF_len _ _
  ·split
   ·simp only;omega
   ·split
    ·simp only;omega
    ·split
     ·simp only
      match hg : g.marks with
      | [] => exact addF_len _ _
      | x :: r => simp only [lastF];repeat' split <;> simp
     ·split
      ·simp only
       have := addF_len (fgK e.past g.marks) ⟨e.rep, e.num, e.time, if isReg t.kind then u.2.2 else 0⟩
       omega
      ·simp
theorem applyF_ok {m : ModS} {l : List MgS} {e : EvS} (h : (applyF m l e).1 = 0) : ValL (mrgF m) l ∧ EvV m (e.past.length : Nat) e ∧ (applyF m l e).2.length = l.length ∧
  (∀ (i : Nat) g, l[i]? = some g → (e.kind = 0 → updF (usF m e) i = none) → (applyF m l e).2[i]? = some g) ∧ ∀ g ∈ (applyF m l e).2, g.marks.length ≤ 1000000 := by
 have hv : ValL (mrgF m) l ∧ EvV m (e.past.length : Nat) e := Classical.byContradiction fun h9 => by
  rw [applyF, if_pos h9] at h
  cases h
 have hmk : ∀ (i : Nat) g, l[i]? = some g → ∃ t, (mrgF m)[i]? = some t ∧ ValG t g := fun i g hi => by
  obtain ⟨t, ht⟩ := get_of (l := mrgF m) (i := i) (by have := hv.1.1;have := (List.getElem?_eq_some_iff.1 hi).1;omega)
  exact ⟨t, ht, hv.1.2 i t g ht hi⟩
 refine ⟨hv.1, hv.2, ?_⟩
 by_cases hk : e.kind = 0
 rotate_left
 ·have hF : applyF m l e = (0, l) := by rw [applyF, if_neg (fun h9 => h9 hv), if_pos hk]
  rw [hF]
  refine ⟨rfl, fun i g hg _ => hg, fun g hg => ?_⟩
  obtain ⟨i, hi⟩ := List.getElem?_of_mem hg
  obtain ⟨t, _, h9⟩ := hmk i g hi
  have := h9.1.2.2.2
  omega
 have hF : applyF m l e = gatherF (cellsF (mrgF m) l (usF m e) e) := by rw [applyF, if_neg (fun h9 => h9 hv), if_neg (fun h9 => h9 hk)]
 rw [hF] at h
 have hG : gatherF (cellsF (mrgF m) l (usF m e) e) = (0, (cellsF (mrgF m) l (usF m e) e).map (·.2)) := by
  unfold gatherF at h ⊢
  cases hf : (cellsF (mrgF m) l (usF m e) e).find? fun p => decide (p.1 ≠ 0 ∧ p.1 ≠ 8) with
  | some p =>
   have := List.find?_some hf
   rw [hf] at h
   simp at this
   exact absurd h this.1
  | none =>
   rw [hf] at h
   simp only at h ⊢
   split at h
   ·cases h
   ·rename_i h9;rw [if_neg h9]
 rw [hF, hG]
 refine ⟨by simp [cellsF_len], fun i g hg hu => ?_, fun g hg => ?_⟩
 ·obtain ⟨t, ht, _⟩ := hmk i g hg
  rw [List.getElem?_map, cellsF_at ht hg, hu hk]
  rfl
 ·obtain ⟨p, hp, rfl⟩ := List.mem_map.1 hg
  obtain ⟨i, hi⟩ := List.getElem?_of_mem hp
  have hil := (List.getElem?_eq_some_iff.1 hi).1
  rw [cellsF_len] at hil
  obtain ⟨x, hx⟩ := get_of hil
  obtain ⟨t, ht, h9⟩ := hmk i x hx
  rw [cellsF_at ht hx] at hi
  cases hi
  have h1 := cellF_len (e := e) (t := t) (u := updF (usF m e) i) (g := x)
  have := h9.1.2.2.2
  omega
end Go.Proofs.YtmjllbjfkafhdaaGreatDoor
namespace Go.CF
open Go
structure OX (o o' : List Res) : Prop where
 x : ∀ {h0 : Heap} {G0 O0 : Nat → Prop} {h : Heap} {G : Nat → Prop} {Os : List (Nat → Prop)}, HpOK h0 G0 O0 o h G Os → ∃ G' Os', HpOK h0 G0 O0 o' h G' Os' ∧ ∀ b, G b → G' b
theorem OX.trans {o o1 o2 : List Res} (a : OX o o1) (b : OX o1 o2) : OX o o2 := ⟨fun c => by
 obtain ⟨G1, Os1, c1, g1⟩ := a.x c
 obtain ⟨G2, Os2, c2, g2⟩ := b.x c1
 exact ⟨G2, Os2, c2, fun b hb => g2 b (g1 b hb)⟩⟩
theorem OX.blk {o r1 r2 r3 : List Res} {b : Nat} {T : TypeId} {cs cs' : List AV} (tk : Take o (blkR b T cs) r1) (x : FX o cs cs' r2) (tk2 : Take r2 (blkR b T cs) r3) : OX o (blkR b T cs' :: r3) := ⟨fun {h0 G0 O0 h G Os} c => by
 obtain ⟨O, os', c2⟩ := c.take tk
 obtain ⟨ho, vs, hb, hr⟩ := c2.own.1
 obtain ⟨G', Os', k1, k2, k3⟩ := x.rep c hr.t
 obtain ⟨O2, os2, c3⟩ := k1.take tk2
 obtain ⟨ho2, vs2, hb2, hr2⟩ := c3.own.1
 have hv : vs2 = vs := by
  have := hb2.get.symm.trans hb.get
  simpa using this
 subst hv
 exact ⟨G', O2 :: os2, c3.perm ⟨⟨ho2, vs2, hb2, ⟨k2, hr.one⟩⟩, c3.own.2⟩ (List.Perm.refl _), k3⟩⟩
theorem CallA.own {P : Program} {f : FuncId} {asx : List AV} {own : List Res} {K K' : AV → List Res → Prop} (h : CallA P f asx own K) (hK : ∀ r o, K r o → ∃ o', OX o o' ∧ K' r o') : CallA P f asx own K' :=
 ⟨fun hh G Os vs h1 h2 => (h.run hh G Os vs h1 h2).mono fun v' h' ⟨r, o, G', Os', hk, g1, g2⟩ => by
  obtain ⟨o', ⟨x⟩, hk'⟩ := hK r o hk
  obtain ⟨G2, Os2, k1, k2⟩ := x g2
  exact ⟨r, o', G2, Os2, hk', AV.mono _ k2 g1, k1⟩⟩
theorem CallA.args {P : Program} {f : FuncId} {asx as' : List AV} {own : List Res} {K : AV → List Res → Prop} (w : RLe asx as') (h : CallA P f as' own K) : CallA P f asx own K :=
 ⟨fun hh G Os vs h1 h2 => h.run hh G Os vs (w.rep h1) h2⟩
theorem CA.own {P : Program} {tt : Nat → Option TI} {en : Nat → Bool} {ok : PgOK P tt en} {T0 : Nat → Ord × (Nat → Cls)} {m0 : Nat} {rs : Array ResultVar} {K : AV → List Res → Prop} {h0 : Heap} {G0 O0 : Nat → Prop} {k : List KI} {e : EA} {o o' : List Res} {y : Code} (x : OX o o')
  (h : CA ⟨P, tt, en, ok, T0, m0, rs, K, h0, G0, O0, ⟨none⟩⟩ k y e o') : CA ⟨P, tt, en, ok, T0, m0, rs, K, h0, G0, O0, ⟨none⟩⟩ k y e o := by
 refine ⟨fun env hh G Os cn => ?_⟩
 obtain ⟨G', Os3, k1, k3⟩ := x.x cn.hp
 exact h.h env hh G' Os3 ⟨k1, fun q c hq => by
  obtain ⟨u, q1, q2⟩ := cn.env q c hq
  exact ⟨u, q1, AV.mono _ k3 q2⟩, FpOK.none rfl⟩
theorem PA.own {P : Program} {tt : Nat → Option TI} {en : Nat → Bool} {ok : PgOK P tt en} {T0 : Nat → Ord × (Nat → Cls)} {m0 : Nat} {rs : Array ResultVar} {K : AV → List Res → Prop} {h0 : Heap} {G0 O0 : Nat → Prop} {k : List KI} {e : EA} {o o' : List Res} {z : Exit} (x : OX o o')
  (h : PA ⟨P, tt, en, ok, T0, m0, rs, K, h0, G0, O0, ⟨none⟩⟩ k z e o') : PA ⟨P, tt, en, ok, T0, m0, rs, K, h0, G0, O0, ⟨none⟩⟩ k z e o := by
 refine ⟨fun env hh G Os cn => ?_⟩
 obtain ⟨G', Os3, k1, k3⟩ := x.x cn.hp
 exact h.h env hh G' Os3 ⟨k1, fun q c hq => by
  obtain ⟨u, q1, q2⟩ := cn.env q c hq
  exact ⟨u, q1, AV.mono _ k3 q2⟩, FpOK.none rfl⟩
end Go.CF
namespace Go.CF
open Go
theorem FX.s1 {α : Type} {o rest own : List Res} {l l' : List AV} {v : Value} {T sz : Nat} {xs : List α} {f : α → List AV} (tk : Take o (arrR v T sz xs f) rest) (hl : xs.length ≤ 9223372036854775807) (h : FX rest l l' own) : FX o (.ow v :: l) (.sl sz xs f :: l') own := .sl tk hl (FX.refl _) h
theorem FX.k {o own : List Res} {a : AV} {l l' : List AV} (h : FX o l l' own) : FX o (a :: l) (a :: l') own := .le (ALe.refl a) h
theorem FX.kn {α : Type} {o own : List Res} {sz : Nat} {f : α → List AV} {l l' : List AV} (h : FX o l l' own) : FX o (.val (.slice none 0 0) :: l) (.sl sz [] f :: l') own := .le ALe.nil h
theorem Res.eq {a b : Res} (h : a.R = b.R) : a = b := by
 cases a;cases b;cases h;rfl
theorem arrR_eq {α β : Type} {v : Value} {T sz : Nat} {l : List α} {f : α → List AV} {m : List β} {g : β → List AV} (he : l.map f = m.map g) : arrR v T sz l f = arrR v T sz m g := Res.eq (by
 have hl : l.length = m.length := by have := congrArg List.length he;simpa using this
 funext h O G
 refine propext ⟨fun ⟨ho, rows, h1, h2⟩ => ⟨ho, rows, by rw [← hl];exact h1, h2.map he.symm⟩, fun ⟨ho, rows, h1, h2⟩ => ⟨ho, rows, by rw [hl];exact h1, h2.map he⟩⟩)
theorem ALe.nilow : ALe (.val (.slice none 0 0)) (.ow (.slice none 0 0)) := ⟨fun h => ⟨h, none, 0, 0, rfl⟩⟩
theorem OX.recell {o rest : List Res} {b : Nat} {T : TypeId} {cs : List AV} (tk : Take o (blkR b T cs) rest) (cs' : List AV) (w : RLe cs cs') : OX o (blkR b T cs' :: rest) := ⟨fun {h0 G0 O0 h G Os} c => by
 obtain ⟨O, os', c2⟩ := c.take tk
 obtain ⟨ho, vs, hb, hr⟩ := c2.own.1
 exact ⟨G, O :: os', c2.perm ⟨⟨ho, vs, hb, ⟨w.rep hr.t, hr.one⟩⟩, c2.own.2⟩ (List.Perm.refl _), fun _ h => h⟩⟩
theorem OX.nil {α : Type} (o : List Res) (T sz : Nat) (f : α → List AV) : OX o (arrR (.slice none 0 0) T sz ([] : List α) f :: o) := ⟨fun {h0 G0 O0 h G Os} c => ⟨G, _, HpOK.nilA (o := o) c T sz f, fun _ h => h⟩⟩
structure FlatV (a : AV) : Prop where
 h : ∀ {h : Heap} {G G' : Nat → Prop} {v : Value}, a.R h G v → a.R h G' v
structure FlatR (R : Res) : Prop where
 h : ∀ {h : Heap} {O G G' : Nat → Prop}, R.R h O G → R.R h O G'
theorem FlatV.val (v : Value) : FlatV (.val v) := ⟨fun h => h⟩
theorem FlatV.ow (v : Value) : FlatV (.ow v) := ⟨fun h => h⟩
inductive FlatL : List AV → Prop where
 | nil : FlatL []
 | cons {a : AV} {l : List AV} : FlatV a → FlatL l → FlatL (a :: l)
theorem FlatL.rep {h : Heap} {G G' : Nat → Prop} {l : List AV} (f : FlatL l) : ∀ {vs : List Value}, RepT h G vs l → RepT h G' vs l := by
 induction f with
 | nil => intro vs hr;match vs, hr with | [], _ => trivial
 | cons ha _ ih =>
  intro vs hr
  match vs, hr with
  | v :: vs, ⟨r1, r2⟩ => exact ⟨ha.h r1, ih r2⟩
theorem FlatV.tup {l : List AV} (f : FlatL l) : FlatV (.tup l) := ⟨fun ⟨vs, h1, h2⟩ => ⟨vs, h1, f.rep h2⟩⟩
theorem FlatR.arr {α : Type} {v : Value} {T sz : Nat} {l : List α} {f : α → List AV} (hf : ∀ x ∈ l, FlatL (f x)) : FlatR (arrR v T sz l f) := ⟨fun ⟨ho, rows, h1, h2⟩ => ⟨ho, rows, h1, ⟨h2.len, fun i r x g1 g2 => ⟨(hf x (List.mem_of_getElem? g2)).rep (h2.row i r x g1 g2).t, (h2.row i r x g1 g2).one⟩, h2.sz⟩⟩⟩
theorem FlatR.own {h : Heap} {G G' : Nat → Prop} : ∀ {rs : List Res} {os : List (Nat → Prop)}, (∀ R ∈ rs, FlatR R) → OwnL h G rs os → OwnL h G' rs os
 | [], [], _, _ => trivial
 | R :: rs, O :: os, hf, ⟨h1, h2⟩ => ⟨(hf R (by simp)).h h1, FlatR.own (fun R hR => hf R (by simp [hR])) h2⟩
 | [], _ :: _, _, h => h.elim
 | _ :: _, [], _, h => h.elim
theorem FlatR.bun {rs : List Res} (hf : ∀ R ∈ rs, FlatR R) : FlatR (bunR rs) := ⟨fun ⟨Os, h1, h2, h3⟩ => ⟨Os, FlatR.own hf h1, h2, h3⟩⟩
theorem Cl.lendO {Γ : Cx} {c : Cls} {o : List Res} {f : FuncId} {asx as' : List AV} {K : AV → List Res → Prop} {M : AV → List Res → Prop} (hc : CallA Γ.P f as' [] K) (hl : Lend o asx as') (hK : ∀ r own, K r own → FlatV r ∧ ∀ R ∈ own, FlatR R) (hm : ∀ r own, K r own → M r (own ++ o)) : Cl Γ c f asx o M := by
 refine ⟨fun {h G Os vs} hp hr => ?_⟩
 have hin : HpOK h (fun b => G b ∨ U Os b) (U []) [] h (fun b => G b ∨ U Os b) [] :=
  ⟨trivial, fun b hb => ⟨hb.elim (fun h9 => (hp.g b h9).1) (fun ⟨O, hO, h9⟩ => (hp.o O hO b h9).1), .inl hb⟩, fun _ h => h, fun O hO => (by cases hO), List.Pairwise.nil, FPx.refl h⟩
 refine (hc.run h _ [] vs (hl.rep hp.own hr) hin).mono fun v h' ⟨r', own', G', Os', hk, g3, g4⟩ => ?_
 obtain ⟨f1, f2⟩ := hK _ _ hk
 have hst : Stp ([] : List Nat) h h' := ⟨g4.fp.size, fun b hb _ => g4.fp.same b (fun ⟨O, hO, _⟩ => by cases hO) hb⟩
 have hx : ∀ S, FPx S h h' := fun S => ⟨hst.size, fun b _ hb => hst.same b hb (by simp)⟩
 have hs := hp.fp.size
 have hs' := hst.size
 have hnew : ∀ O ∈ Os', ∀ b, O b → h.size ≤ b := fun O hO b hb => by
  rcases (g4.o O hO b hb).2.1 with ⟨O2, hO2, _⟩|h9
  ·cases hO2
  ·exact h9
 refine ⟨.inr hst, r', own' ++ o, G, Os' ++ Os, hm _ _ hk, f1.h g3, ⟨(FlatR.own f2 g4.own).app (OwnL.stp (fun O _ => hx _) hp.own), fun b hb => ⟨by have := (hp.g b hb).1;omega, (hp.g b hb).2.imp id fun q => ⟨q.1, q.2.eq (hst.same b (hp.g b hb).1 (by simp))⟩⟩, hp.g0, fun O hO b hb => ?_, List.pairwise_append.2 ⟨g4.d, hp.d, fun A hA B hB b ha hb => ?_⟩, ⟨by omega, fun b hb hl => ?_⟩⟩, hx G, fun _ h => h⟩
 ·rcases List.mem_append.1 hO with hO|hO
  ·have := hnew O hO b hb
   exact ⟨(g4.o O hO b hb).1, .inr (by omega), fun hg => by have := (hp.g b hg).1;omega⟩
  ·exact ⟨by have := (hp.o O hO b hb).1;omega, (hp.o O hO b hb).2⟩
 ·have := hnew A hA b ha
  have := (hp.o B hB b hb).1
  omega
 ·rw [hst.same b (by omega) (by simp)]
  exact hp.fp.same b hb hl
end Go.CF
namespace Go.Proofs.YtmjllbjfkafhdaaGreatDoor
open Go Go.CF
set_option maxRecDepth 20000
/-! ### Searches in numbers -/
theorem indexI_p {g : FuncId} {p : Int → Bool} (hg : ∀ x, CallP Tryz.prog g [it x] (bl (p x))) (he : en g = true) (l : List Int) :
  CallP Tryz.prog 203 [ints l, .fn g []] (it (idxI p l)) := by
 refine CallA.of pg ord203 Tryz.func203 rfl Tryz.ntmps203 Tryz.results203 rfl fun h0 G0 O0 => ?_
 repeat' (first|refine Sp.h ?_|refine Lk.r rfl ?_|refine Rf.mk rfl ?_|refine Im.mk fun _=>?_|fail)
 refine CA.loop (fun i : Nat => ⟨[(0, ints l), (1, .fn g []), (7, it (l.length : Nat)), (8, it i)], []⟩)
  (fun i => i ≤ l.length ∧ ∀ j y, j < i → l[j]? = some y → p y = false) (fun i => l.length - i) 0 xE ⟨Nat.zero_le _, fun j y h => by omega⟩ ?_
 rintro i ⟨hi, hj⟩
 by_cases hin : i < l.length
 ·obtain ⟨e, hx⟩ := get_of hin
  repeat' (first|refine Sp.h ?_|refine Lk.r rfl ?_|refine Rf.mk rfl ?_|refine xA ?_|(refine Bd.mk ?_ ?_ <;> intro _)|refine xI ?_|refine xN ?_|(apply Rf.mk;(focus assumption))|refine xO ?_|(apply Cl.p (hg e);focus repeat' constructor))
  ·rename_i hp
   exact Fin.p rfl (by rw [idxI, idxN_of hx hp hj, if_pos hin])
  ·rename_i hp
   refine PA.lp (i + 1) xE ⟨⟨hin, fun j y h1 h2 => ?_⟩, by omega⟩
   by_cases hij : j = i
   ·subst hij;rw [hx] at h2;cases h2;simpa using hp
   ·exact hj j y (by omega) h2
 ·repeat' (first|refine Sp.h ?_|refine Lk.r rfl ?_|refine Rf.mk rfl ?_|refine xB ?_|refine xN ?_|fail)
  exact Fin.p rfl (by rw [idxI, idxN_none (fun x hx => by obtain ⟨j, hx⟩ := List.getElem?_of_mem hx;exact hj j x (by have := (List.getElem?_eq_some_iff.1 hx).1;omega) hx), if_neg (by omega)])
theorem containsI_p {g : FuncId} {p : Int → Bool} (hg : ∀ x, CallP Tryz.prog g [it x] (bl (p x))) (he : en g = true) (l : List Int) :
  CallP Tryz.prog 152 [ints l, .fn g []] (bl (decide (idxN p l < l.length))) := by
 refine CallA.of pg ord152 Tryz.func152 rfl Tryz.ntmps152 Tryz.results152 rfl fun h0 G0 O0 => ?_
 repeat' (first|refine Sp.h ?_|refine Lk.r rfl ?_|refine Rf.mk rfl ?_|refine xN ?_|(apply Cl.p (indexI_p hg he l);focus repeat' constructor))
 refine Fin.p rfl (vb (decide_eq_decide.2 ?_))
 unfold idxI
 split <;> omega
theorem inside1_p (x : Int) : CallP Tryz.prog 153 [it x] (bl (decide (¬ (-1000000000 ≤ x ∧ x ≤ 1000000000)))) := by
 refine CallA.of pg ord153 Tryz.func153 rfl Tryz.ntmps153 Tryz.results153 rfl fun h0 G0 O0 => ?_
 repeat' (first|refine Sp.h ?_|refine Lk.r rfl ?_|refine Rf.mk rfl ?_|refine xA ?_|refine xB ?_|(refine Bd.mk ?_ ?_ <;> intro _)|refine xN ?_|fail)
 all_goals exact Fin.p rfl (vb (by first|exact (decide_eq_true (by omega)).symm|exact (decide_eq_false (by omega)).symm|exact decide_eq_decide.2 (by omega)))
theorem inside35_p (l : List Int) : CallP Tryz.prog 86 [ints l] (bl (decide (insS l))) := by
 refine CallA.of pg ord86 Tryz.func86 rfl Tryz.ntmps86 Tryz.results86 rfl fun h0 G0 O0 => ?_
 repeat' (first|refine Sp.h ?_|refine Lk.r rfl ?_|refine Rf.mk rfl ?_|refine xN ?_|(apply Cl.p (containsI_p inside1_p rfl l);focus repeat' constructor))
 refine Fin.p rfl (vb (decide_eq_decide.2 ?_))
 rw [idxN_lt]
 constructor
 ·intro h x hx
  exact Classical.byContradiction fun h9 => h ⟨x, hx, decide_eq_true h9⟩
 ·rintro h ⟨x, hx, h9⟩
  have := h x hx
  have := of_decide_eq_true h9
  omega
/-! ### Clones -/
theorem cloneM_a (l : List MgS) (hl : l.length ≤ 1000000) (hm : ∀ g ∈ l, g.marks.length ≤ 1000000) :
  CallA Tryz.prog 107 [mgs l] [] fun r own => ∃ v L, r = .ow v ∧ L.map MgE.g = l ∧ own = outR v L := by
 have hc := cloneG_o l (by omega)
 refine CallA.of pg ord107 Tryz.func107 rfl Tryz.ntmps107 Tryz.results107 rfl fun h0 G0 O0 => ?_
 repeat' (first|refine Sp.h ?_|refine Lk.r rfl ?_|refine Rf.mk rfl ?_|fail)
 (refine Cl.use (hc) (by repeat' (first|exact Lend.nil|apply Lend.keep|fail)) .nil rfl ?_;rintro _ _ ⟨_, rfl, rfl⟩)
 repeat' (first|refine Sp.h ?_|refine Lk.r rfl ?_|refine Rf.mk rfl ?_|refine xU ?_|fail)
 rename_i v
 apply CA.retype (m := l.map ogG) (g := ogC)
 focus (repeat constructor)
 focus exact ogG_map l
 refine CA.bunNil mgeR ?_
 refine CA.loop (fun x : Nat × List MgE => ⟨[(3, .ow v), (8, it (l.length : Nat)), (9, it x.1)], [arrR v 231 3 (x.2.map ogE ++ (l.drop x.1).map ogG) ogC, bunR (x.2.map mgeR)]⟩)
  (fun x => x.1 ≤ l.length ∧ x.2.map MgE.g = l.take x.1) (fun x => l.length - x.1) (0, []) xE ⟨Nat.zero_le _, by simp⟩ ?_
 rintro ⟨i, D⟩ ⟨hi, hD⟩
 simp only at hi hD
 simp only
 by_cases hin : i < l.length
 ·obtain ⟨g, hg⟩ := get_of hin
  have hgm := hm g (List.mem_of_getElem? hg)
  have hDl : D.length = i := by have := congrArg List.length hD;simp at this;omega
  have hdr : (l.drop i).map ogG = ogG g :: (l.drop (i + 1)).map ogG := by
   have h9 := List.drop_eq_getElem_cons hin
   rw [(List.getElem?_eq_some_iff.1 hg).2] at h9
   rw [h9, List.map_cons]
  have hrow : (D.map ogE ++ (l.drop i).map ogG)[i]? = some (g.put, g.drop, mks g.marks) := by
   rw [hdr, List.getElem?_append_right (by simp;omega)];simp [hDl, ogG]
  have hcl := cloneK_o g.marks (by omega)
  repeat' (first|refine Sp.h ?_|refine Lk.r rfl ?_|refine Rf.mk rfl ?_|refine xA ?_|refine xU ?_|refine xI ?_|refine xJ ?_|fail)
  (refine Cl.use (hcl) (by repeat' (first|exact Lend.nil|apply Lend.keep|fail)) .nil rfl ?_;rintro _ _ ⟨_, rfl, rfl⟩)
  (repeat' (first|(show CA _ _ (Code.region 6 _ _) _ _;apply Stopped.out)|refine Sp.h ?_|refine Lk.r rfl ?_|refine Rf.mk rfl ?_|refine xU ?_|refine xI ?_|refine xJ ?_|refine xV ?_|(apply Up.inv;(focus repeat constructor);(focus infer_instance))|fail));any_goals apply Stopped.mk
  rename_i w2
  have hset : (D.map ogE ++ (l.drop i).map ogG).set i (g.put, g.drop, .ow w2) = (D ++ [(MgE.mk g.put g.drop w2 g.marks)]).map ogE ++ (l.drop (i + 1)).map ogG := by
   rw [hdr, List.set_append, if_neg (by simp;omega)]
   simp [hDl, ogE]
  rw [hset]
  apply CA.bunPush (g := mgeR) (x := (MgE.mk g.put g.drop w2 g.marks))
  focus (repeat constructor)
  focus (repeat constructor)
  repeat' (first|refine Sp.h ?_|refine Lk.r rfl ?_|refine Rf.mk rfl ?_|refine xO ?_|fail)
  exact PA.lp (i + 1, D ++ [(MgE.mk g.put g.drop w2 g.marks)]) xE ⟨⟨hin, by simp only;rw [List.map_append, hD, List.take_add_one, hg];rfl⟩, by simp only;omega⟩
 ·have hie : i = l.length := by omega
  subst hie
  rw [List.take_length] at hD
  rw [List.drop_length, List.map_nil, List.append_nil]
  (repeat' (first|(show CA _ _ (Code.region 7 _ _) _ _;apply Stopped.out)|refine Sp.h ?_|refine Lk.r rfl ?_|refine Rf.mk rfl ?_|refine xB ?_|fail));any_goals apply Stopped.mk
  apply CA.retype (m := D) (g := mgeC)
  focus (repeat constructor)
  focus exact ogE_map D
  repeat' (first|refine Sp.h ?_|refine Lk.r rfl ?_|refine Rf.mk rfl ?_|refine xN ?_|fail)
  exact ⟨_, _, .one (.same (.z)), _, D, rfl, hD, rfl⟩
theorem cloneM_p (l : List MgS) (hl : l.length ≤ 1000000) (hm : ∀ g ∈ l, g.marks.length ≤ 1000000) : CallP Tryz.prog 107 [mgs l] (mgs l) := by
 refine CallA.fx (cloneM_a l hl hm) ?_
 rintro r o ⟨v, L, rfl, rfl, rfl⟩
 exact out_fx (by simpa using hl) (fun x hx => hm x.g (List.mem_map_of_mem hx)) .nil
theorem cloneV_o (l : List EvS) (hl : l.length ≤ 1000000000) : CallO Tryz.prog 157 [evs l] 66 13 l evC := by
 refine CallA.of pg ord157 Tryz.func157 rfl Tryz.ntmps157 Tryz.results157 rfl fun h0 G0 O0 => ?_
 repeat' (first|refine Sp.h ?_|refine Lk.r rfl ?_|refine Rf.mk rfl ?_|(refine Bd.mk ?_ ?_ <;> intro _)|refine xP ?_|refine Im.mk fun _=>?_|refine All.mk fun _=>?_|refine xU ?_|refine Ce.l rfl ?_|(apply Fk.r;focus repeat' first|infer_instance|constructor)|refine xN ?_|refine Rf.mk ⟨rfl, rfl⟩ ?_|refine Rf.mk ⟨rfl, rfl, rfl⟩ ?_|refine Mp.same ?_|fail)
 ·rename_i b hb hbt
  have hl0 : l = [] := Decidable.byContradiction fun h => by rw [hb h] at hbt;cases hbt
  subst hl0
  exact ⟨_, _, .one (.nils (.z)), _, rfl, rfl⟩
 ·repeat' (first|fail)
  exact ⟨_, _, .one (.same (.z)), _, rfl, rfl⟩
structure EvE where
 e : EvS
 w : Value
def evQ (e : EvS) (p : AV) : List AV := [iv e.rep, iv e.num, iv e.time, p, iv e.kind, iv e.action, iv e.gk, iv e.gi, iv e.ge, iv e.ga, iv e.to, iv e.place, iv e.serial]
def eveC (x : EvE) : List AV := evQ x.e (.ow x.w)
abbrev eveR (x : EvE) : Res := arrR x.w 3 1 x.e.past intC
def oeC (x : EvS × AV) : List AV := evQ x.1 x.2
instance {e : EvS} {p : AV} : Inv oeC [iv e.rep, iv e.num, iv e.time, p, iv e.kind, iv e.action, iv e.gk, iv e.gi, iv e.ge, iv e.ga, iv e.to, iv e.place, iv e.serial] (e, p) := ⟨rfl⟩
def oeE (x : EvE) : EvS × AV := (x.e, .ow x.w)
def oeG (e : EvS) : EvS × AV := (e, ints e.past)
theorem oeE_map (l : List EvE) : l.map eveC = (l.map oeE).map oeC := by rw [List.map_map];rfl
theorem oeG_map (l : List EvS) : (l.map oeG).map oeC = l.map evC := by rw [List.map_map];rfl
abbrev outE (v : Value) (L : List EvE) : List Res := [arrR v 66 13 L eveC, bunR (L.map eveR)]
theorem outE_fx {v : Value} {L : List EvE} (hl : L.length ≤ 1000000) (hm : ∀ x ∈ L, x.e.past.length ≤ 1000000) {l l' : List AV} {o own : List Res} (ht : FX o l l' own) : FX (outE v L ++ o) (.ow v :: l) (evs (L.map EvE.e) :: l') own := by
 refine .sl .here (by omega) (.unb .here ?_) ht
 refine FX.rows (o := o) (r := eveR) (f := eveC) (g := evC) (φ := EvE.e) L fun x hx o' => ?_
 have := hm x hx
 exact .le (ALe.refl _) (.le (ALe.refl _) (.le (ALe.refl _) (.sl .here (by omega) (FX.refl _) (FX.refl _))))
set_option maxHeartbeats 2000000 in
theorem cloneEs_a (l : List EvS) (hl : l.length ≤ 1000000) (hm : ∀ e ∈ l, e.past.length ≤ 1000000) :
  CallA Tryz.prog 99 [evs l] [] fun r own => ∃ v L, r = .ow v ∧ L.map EvE.e = l ∧ own = outE v L := by
 have hc := cloneV_o l (by omega)
 refine CallA.of pg ord99 Tryz.func99 rfl Tryz.ntmps99 Tryz.results99 rfl fun h0 G0 O0 => ?_
 repeat' (first|refine Sp.h ?_|refine Lk.r rfl ?_|refine Rf.mk rfl ?_|fail)
 (refine Cl.use (hc) (by repeat' (first|exact Lend.nil|apply Lend.keep|fail)) .nil rfl ?_;rintro _ _ ⟨_, rfl, rfl⟩)
 repeat' (first|refine Sp.h ?_|refine Lk.r rfl ?_|refine Rf.mk rfl ?_|refine xU ?_|fail)
 rename_i v
 apply CA.retype (m := l.map oeG) (g := oeC)
 focus (repeat constructor)
 focus exact oeG_map l
 refine CA.bunNil eveR ?_
 refine CA.loop (fun x : Nat × List EvE => ⟨[(3, .ow v), (8, it (l.length : Nat)), (9, it x.1)], [arrR v 66 13 (x.2.map oeE ++ (l.drop x.1).map oeG) oeC, bunR (x.2.map eveR)]⟩)
  (fun x => x.1 ≤ l.length ∧ x.2.map EvE.e = l.take x.1) (fun x => l.length - x.1) (0, []) xE ⟨Nat.zero_le _, by simp⟩ ?_
 rintro ⟨i, D⟩ ⟨hi, hD⟩
 simp only at hi hD
 simp only
 by_cases hin : i < l.length
 ·obtain ⟨g, hg⟩ := get_of hin
  have hgm := hm g (List.mem_of_getElem? hg)
  have hDl : D.length = i := by have := congrArg List.length hD;simp at this;omega
  have hdr : (l.drop i).map oeG = oeG g :: (l.drop (i + 1)).map oeG := by
   have h9 := List.drop_eq_getElem_cons hin
   rw [(List.getElem?_eq_some_iff.1 hg).2] at h9
   rw [h9, List.map_cons]
  have hrow : (D.map oeE ++ (l.drop i).map oeG)[i]? = some (g, ints g.past) := by
   rw [hdr, List.getElem?_append_right (by simp;omega)];simp [hDl, oeG]
  have hcl := clone_o g.past (by omega)
  repeat' (first|refine Sp.h ?_|refine Lk.r rfl ?_|refine Rf.mk rfl ?_|refine xA ?_|refine xU ?_|refine xI ?_|refine xJ ?_|fail)
  (refine Cl.use (hcl) (by repeat' (first|exact Lend.nil|apply Lend.keep|fail)) .nil rfl ?_;rintro _ _ ⟨_, rfl, rfl⟩)
  (repeat' (first|(show CA _ _ (Code.region 6 _ _) _ _;apply Stopped.out)|refine Sp.h ?_|refine Lk.r rfl ?_|refine Rf.mk rfl ?_|refine xU ?_|refine xI ?_|refine xJ ?_|refine xV ?_|(apply Up.inv;(focus repeat constructor);(focus infer_instance))|fail));any_goals apply Stopped.mk
  rename_i w2
  have hset : (D.map oeE ++ (l.drop i).map oeG).set i (g, .ow w2) = (D ++ [(EvE.mk g w2)]).map oeE ++ (l.drop (i + 1)).map oeG := by
   rw [hdr, List.set_append, if_neg (by simp;omega)]
   simp [hDl, oeE]
  rw [hset]
  apply CA.bunPush (g := eveR) (x := (EvE.mk g w2))
  focus (repeat constructor)
  focus (repeat constructor)
  repeat' (first|refine Sp.h ?_|refine Lk.r rfl ?_|refine Rf.mk rfl ?_|refine xO ?_|fail)
  exact PA.lp (i + 1, D ++ [(EvE.mk g w2)]) xE ⟨⟨hin, by simp only;rw [List.map_append, hD, List.take_add_one, hg];rfl⟩, by simp only;omega⟩
 ·have hie : i = l.length := by omega
  subst hie
  rw [List.take_length] at hD
  rw [List.drop_length, List.map_nil, List.append_nil]
  (repeat' (first|(show CA _ _ (Code.region 7 _ _) _ _;apply Stopped.out)|refine Sp.h ?_|refine Lk.r rfl ?_|refine Rf.mk rfl ?_|refine xB ?_|fail));any_goals apply Stopped.mk
  apply CA.retype (m := D) (g := eveC)
  focus (repeat constructor)
  focus exact oeE_map D
  repeat' (first|refine Sp.h ?_|refine Lk.r rfl ?_|refine Rf.mk rfl ?_|refine xN ?_|fail)
  exact ⟨_, _, .one (.same (.z)), _, D, rfl, hD, rfl⟩
theorem cloneEs_p (l : List EvS) (hl : l.length ≤ 1000000) (hm : ∀ e ∈ l, e.past.length ≤ 1000000) : CallP Tryz.prog 99 [evs l] (evs l) := by
 refine CallA.fx (cloneEs_a l hl hm) ?_
 rintro r o ⟨v, L, rfl, rfl, rfl⟩
 have := outE_fx (v := v) (L := L) (o := []) (by simpa using hl) (fun x hx => hm x.e (List.mem_map_of_mem hx)) .nil
 simpa using this
/-! ### The strict cells of a model -/
theorem cells35_p (m : ModS) (hm : LayOK m.sorts m.tables) : CallP Tryz.prog 85 [mdl m] (it (strF m : Nat)) := by
 have hml := hm.2.2.1
 refine CallA.of pg ord85 Tryz.func85 rfl Tryz.ntmps85 Tryz.results85 rfl fun h0 G0 O0 => ?_
 repeat' (first|refine Sp.h ?_|refine Lk.r rfl ?_|refine Rf.mk rfl ?_|refine Im.mk fun _=>?_|refine All.mk fun _=>?_|refine xT ?_|fail)
 rename_i b1 _
 refine CA.loop (fun i : Nat => ⟨[(1, pm b1), (3, it (strN m (m.tables.take i) : Nat)), (10, tbls m.tables), (11, it (m.tables.length : Nat)), (12, it i)], [mR b1 m]⟩) (fun i => i ≤ m.tables.length) (fun i => m.tables.length - i) 0 xE (Nat.zero_le _) ?_
 intro i hi
 by_cases hin : i < m.tables.length
 ·obtain ⟨t, ht⟩ := get_of hin
  have hc := (hm.2.2.2 t (List.mem_of_getElem? ht)).1
  have h1 := sz_fit (m := m) hc
  have hn := strN_le hm i hi
  have hsu := strN_succ (m := m) ht
  by_cases hst : isStrict t.kind
  ·rw [if_pos hst] at hsu
   have h0 : t.kind = 0 ∨ t.kind = 1 := hst
   rcases h0 with h0|h0
   all_goals repeat' (first|refine Sp.h ?_|refine Lk.r rfl ?_|refine Rf.mk rfl ?_|refine xA ?_|refine xB ?_|refine Im.mk fun _=>?_|refine All.mk fun _=>?_|refine xT ?_|refine xI ?_|refine Ch.l ⟨rfl, rfl⟩ ?_|(apply SetAsk.r;focus repeat' constructor)|refine xN ?_|fail)
   all_goals rename_i b5 _
   all_goals refine CA.loop (fun k : Nat => ⟨[(1, pm b1), (3, it (strN m (m.tables.take i) : Nat)), (5, pm b5), (6, it (prodF m.sorts (t.cols.take k))), (10, tbls m.tables), (11, it (m.tables.length : Nat)), (12, it i), (25, ints t.cols), (26, it (t.cols.length : Nat)), (27, it k)], [mR b1 m, blkR b5 150 (tblC t)]⟩) (fun k => k ≤ t.cols.length) (fun k => t.cols.length - k) 0 xE (Nat.zero_le _) ?_
   all_goals intro k hk
   all_goals by_cases hkn : k < t.cols.length
   any_goals
    obtain ⟨x, hx⟩ := get_of hkn
    obtain ⟨j, rfl, y, hy, hy1, hy2⟩ := col_get hc hx
    have hb := prod_succ hx (show m.sorts[((j : Int)).toNat]? = some y by simpa using hy)
    have hp := prod_fit hc k
    have hp2 := prod_fit hc (k + 1)
    rw [hb] at hp2
    have hj := (List.getElem?_eq_some_iff.1 hy).1
    repeat' (first|refine Sp.h ?_|refine Lk.r rfl ?_|refine Rf.mk rfl ?_|refine xA ?_|refine xP ?_|refine xT ?_|refine xI ?_|refine xO ?_|fail)
    rw [← hb]
    exact PA.lp (k + 1) xE ⟨hkn, by omega⟩
   all_goals
    have hke : k = t.cols.length := by omega
    subst hke
    simp only [List.take_length]
    rw [h1.1]
    repeat' (first|refine Sp.h ?_|refine Lk.r rfl ?_|refine Rf.mk rfl ?_|refine xB ?_|refine xO ?_|fail)
    rw [show ((strN m (m.tables.take i) : Nat) : Int) + (szF m t : Nat) = (strN m (m.tables.take (i + 1)) : Nat) by omega]
    exact PA.lp (i + 1) xE ⟨hin, by omega⟩
  ·rw [if_neg hst] at hsu
   unfold isStrict at hst
   repeat' (first|refine Sp.h ?_|refine Lk.r rfl ?_|refine Rf.mk rfl ?_|refine xA ?_|refine xB ?_|refine All.mk fun _=>?_|refine xT ?_|refine xI ?_|refine Ch.l ⟨rfl, rfl⟩ ?_|(apply SetAsk.r;focus repeat' constructor)|refine xN ?_|refine xO ?_|fail)
   all_goals rw [show strN m (m.tables.take i) = strN m (m.tables.take (i + 1)) by omega]
   all_goals exact PA.lp (i + 1) xE ⟨hin, by omega⟩
 ·have hie : i = m.tables.length := by omega
  subst hie
  simp only [List.take_length]
  repeat' (first|refine Sp.h ?_|refine Lk.r rfl ?_|refine Rf.mk rfl ?_|refine xB ?_|refine xN ?_|fail)
  exact Fin.p rfl rfl
end Go.Proofs.YtmjllbjfkafhdaaGreatDoor
namespace Go.Proofs.YtmjllbjfkafhdaaGreatDoor
open Go Go.CF
set_option maxRecDepth 20000
theorem ovF_int : OvF Tryz.prog 214 22 :=
 ⟨_, 4, Tryz.func214, by kernel_rfl, by kernel_rfl, by kernel_rfl, by kernel_rfl⟩
instance (priority := 2000) {T : Nat → Ord × (Nat → Cls)} {n : Nat} {rs : Array ResultVar} {K : AV → List Res → Prop} {h0 : Heap} {G0 O0 : Nat → Prop} {d : Tmp} {x y : Operand} {tys : Array TypeId} {ty : TypeId} {e : EA} {o : List Res} {N : NA} :
  Sp (SA ⟨Tryz.prog, tt, en, pg, T, n, rs, K, h0, G0, O0, ⟨none⟩⟩ .loud (some d) (.call { callee := .value (.func 214), args := #[x, y], argTypes := tys }) ty e o N)
   (Lk (evA e x) fun a => Lk (evA e y) fun b => Ovl o a b (N ((d, .val (.bool false)) :: e) o)) := ⟨fun h => SA.ovl ovF_int (tS := 22) rfl rfl h⟩
set_option maxHeartbeats 1000000 in
theorem insertI_a (w u : Value) (L : List (List Value)) (r : List Value) (i : Nat) (hi : i ≤ L.length) (hl : L.length ≤ 1000000) :
  CallA Tryz.prog 165 [.ow w, it i, .ow u] [arrR w 3 1 L valR, arrR u 3 1 [r] valR] fun q own => ∃ w', q = .ow w' ∧ own = [arrR w' 3 1 (L.take i ++ r :: L.drop i) valR] := by
 refine CallA.of pg ord165 Tryz.func165 rfl Tryz.ntmps165 Tryz.results165 rfl fun h0 G0 O0 => ?_
 have h1r : ([r] : List (List Value)).length = 1 := rfl
 by_cases hin : i = L.length
 ·subst hin
  rw [List.take_length, List.drop_length]
  repeat' (first|refine Sp.h ?_|refine Lk.r rfl ?_|refine Rf.mk rfl ?_|refine xA ?_|refine xB ?_|refine xP ?_|refine All.mk fun _=>?_|refine xU ?_|refine Ce.r ?_|refine xN ?_|refine Rf.mk ⟨rfl, rfl⟩ ?_|(apply Jx.r;(focus exact rfl);(focus first|omega|(simp;done)|(simp;omega)))|refine Mp.same ?_|fail)
  exact ⟨_, _, .one (.same (.z)), _, rfl, rfl⟩
 have hin : i < L.length := by omega
 by_cases hc : capV w < L.length + 1
 ·repeat' (first|refine Sp.h ?_|refine Lk.r rfl ?_|refine Rf.mk rfl ?_|refine xA ?_|refine xB ?_|refine Im.mk fun _=>?_|refine xU ?_|refine Rf.mk ⟨rfl, rfl⟩ ?_|refine Rf.mk ⟨rfl, rfl, rfl⟩ ?_|(apply Jx.r;(focus exact rfl);(focus first|omega|(simp;done)|(simp;omega)))|refine Mp.same ?_|refine xO ?_|fail)
  refine Jx.r (j := L.length + [r].length - i) (by omega) (by omega) ?_
  (repeat' (first|(show CA _ _ (Code.region 12 _ _) _ _;apply Stopped.out)|refine Sp.h ?_|refine Lk.r rfl ?_|refine Rf.mk rfl ?_|refine OpK.r rfl ?_|refine xP ?_|refine All.mk fun _=>?_|refine xU ?_|refine Rf.mk ⟨rfl, rfl⟩ ?_|refine Rf.mk ⟨rfl, rfl, rfl⟩ ?_|(apply Jx.r;(focus exact rfl);(focus first|omega|(simp;done)|(simp;omega)))|refine Mp.same ?_|refine xD ?_|refine xO ?_|(apply CpS.part;(focus (repeat constructor;done)))|(apply TkX.r;(focus repeat constructor))|fail));any_goals apply Stopped.mk
  apply CA.ofX 9
  focus rfl
  focus (repeat constructor)
  focus (simp;omega)
  repeat' (first|refine Sp.h ?_|refine Lk.r rfl ?_|refine Rf.mk rfl ?_|refine xN ?_|fail)
  rw [ins_eq2 hin _ _ _ _ _ _ (by omega) (by omega) (by omega) (by simp;omega) (by omega) h1r]
  exact ⟨_, _, .one (.same (.z)), _, rfl, rfl⟩
 ·(repeat' (first|(show CA _ _ (Code.region 13 _ _) _ _;apply Stopped.out)|refine Sp.h ?_|refine Lk.r rfl ?_|refine Rf.mk rfl ?_|refine xB ?_|refine Im.mk fun _=>?_|refine xU ?_|(apply Jx.r;(focus exact rfl);(focus first|omega|(simp;done)|(simp;omega)))|refine xO ?_|fail));any_goals apply Stopped.mk
  apply CA.toX 0
  focus rfl
  focus (repeat constructor)
  intro _
  (repeat' (first|(show CA _ _ (Code.region 16 _ _) _ _;apply Stopped.out)|refine Sp.h ?_|refine Lk.r rfl ?_|refine Rf.mk rfl ?_|refine xB ?_|refine OpK.r rfl ?_|refine xP ?_|refine Rf.mk ⟨rfl, rfl, rfl⟩ ?_|(apply Jx.r;(focus exact rfl);(focus first|omega|(simp;done)|(simp;omega)))|refine xD ?_|refine xO ?_|(apply CpS.part;(focus (repeat constructor;done)))|(apply TkX.r;(focus repeat constructor))|(apply ExX.long;(focus rfl);(focus first|omega|(simp <;> omega));(focus first|omega|(simp <;> omega)))|(apply Ovl.mk';(focus repeat constructor);(focus repeat constructor);(focus decide))|fail));any_goals apply Stopped.mk
  refine CA.sub ⟨[(0, .ow _), (1, it i), (2, .ow u)], [arrR _ 3 1 _ valR, arrR u 3 1 [r] valR]⟩ xE ?_
  repeat' (first|refine Sp.h ?_|refine Lk.r rfl ?_|refine Rf.mk rfl ?_|refine xU ?_|refine xN ?_|refine Rf.mk ⟨rfl, rfl, rfl⟩ ?_|(apply Jx.r;(focus exact rfl);(focus first|omega|(simp;done)|(simp;omega)))|refine Mp.same ?_|(apply CpS.all;(focus (repeat constructor;done)))|fail)
  rw [ins_eq hin _ _ _ (by omega) (by simp;omega) h1r]
  exact ⟨_, _, .one (.same (.z)), _, rfl, rfl⟩
theorem isNaNS_p (x : Int) : CallP Tryz.prog 213 [it x] (bl false) := by
 refine CallA.of pg ord213 Tryz.func213 rfl Tryz.ntmps213 Tryz.results213 rfl fun h0 G0 O0 => ?_
 repeat' (first|refine Sp.h ?_|refine Lk.r rfl ?_|refine Rf.mk rfl ?_|refine xN ?_|fail)
 all_goals exact Fin.p rfl (vb (by simp))
theorem lessI_p (x y : Int) : CallP Tryz.prog 212 [it x, it y] (bl (decide (x < y))) := by
 refine CallA.of pg ord212 Tryz.func212 rfl Tryz.ntmps212 Tryz.results212 rfl fun h0 G0 O0 => ?_
 repeat' (first|refine Sp.h ?_|refine Lk.r rfl ?_|refine Rf.mk rfl ?_|refine xN ?_|(apply Cl.p (isNaN_p _);focus repeat' constructor))
 all_goals exact Fin.p rfl (vb (by first|rfl|(simp;done)|(simp;omega)))
noncomputable def posI (l : List Int) (n : Int) : Nat := idxN (fun y => decide (¬ y < n)) l
theorem posI_of {l : List Int} {x : Int} {n : Nat} (hn : n ≤ l.length) (h1 : ∀ (q : Nat) y, q < n → l[q]? = some y → y < x) (h2 : ∀ (q : Nat) y, n ≤ q → l[q]? = some y → ¬ y < x) : posI l x = n := by
 by_cases hnl : n < l.length
 ·obtain ⟨y, hy⟩ := get_of hnl
  exact idxN_of hy (decide_eq_true (h2 n y (Nat.le_refl _) hy)) fun j z hj hz => decide_eq_false (fun h => h (h1 j z hj hz))
 ·have hne : n = l.length := by omega
  rw [hne]
  exact idxN_none fun y hy => by
   obtain ⟨j, hj⟩ := List.getElem?_of_mem hy
   exact decide_eq_false (fun h => h (h1 j y (by have := (List.getElem?_eq_some_iff.1 hj).1;omega) hj))
abbrev SrtI (l : List Int) : Prop := l.Pairwise (· < ·)
theorem srtI_at {l : List Int} (h : SrtI l) {i j : Nat} {a b : Int} (hij : i < j) (ha : l[i]? = some a) (hb : l[j]? = some b) : a < b := by
 obtain ⟨h1, rfl⟩ := List.getElem?_eq_some_iff.1 ha
 obtain ⟨h2, rfl⟩ := List.getElem?_eq_some_iff.1 hb
 exact List.pairwise_iff_getElem.1 h i j h1 h2 hij
theorem binI_p (l : List Int) (x : Int) (hs : SrtI l) (hl : l.length ≤ 1000000) :
  CallP Tryz.prog 164 [ints l, it x] (.tup [it (posI l x : Nat), bl (decide (x ∈ l))]) := by
 have hmem : ∀ n, posI l x = n → (∀ (q : Nat) y, q < n → l[q]? = some y → y < x) → (∀ (q : Nat) y, n ≤ q → l[q]? = some y → ¬ y < x) → (x ∈ l ↔ l[n]? = some x) := fun n _ h1 h2 => by
  constructor
  ·intro h
   obtain ⟨j, hj⟩ := List.getElem?_of_mem h
   rcases Nat.lt_trichotomy j n with hjn|hjn|hjn
   ·have := h1 j x hjn hj;omega
   ·rw [← hjn];exact hj
   ·have hjl := (List.getElem?_eq_some_iff.1 hj).1
    obtain ⟨z, hz⟩ := get_of (l := l) (i := n) (by omega)
    have := srtI_at hs hjn hz hj
    exact absurd this (h2 n z (Nat.le_refl _) hz)
  ·exact List.mem_of_getElem?
 refine CallA.of pg ord164 Tryz.func164 rfl Tryz.ntmps164 Tryz.results164 rfl fun h0 G0 O0 => ?_
 repeat' (first|refine Sp.h ?_|refine Lk.r rfl ?_|refine Rf.mk rfl ?_|refine Im.mk fun _=>?_|fail)
 refine CA.loop (fun p : Nat × Nat => ⟨[(0, ints l), (1, it x), (6, it (l.length : Nat)), (7, it p.1), (8, it p.2)], []⟩)
  (fun p => p.1 ≤ p.2 ∧ p.2 ≤ l.length ∧ (∀ (q : Nat) y, q < p.1 → l[q]? = some y → y < x) ∧ ∀ (q : Nat) y, p.2 ≤ q → l[q]? = some y → ¬ y < x) (fun p => p.2 - p.1) (0, l.length) xE
  ⟨Nat.zero_le _, Nat.le_refl _, fun q y h => absurd h (Nat.not_lt_zero q), fun q y h h' => by have := (List.getElem?_eq_some_iff.1 h').1;simp only at h;omega⟩ ?_
 rintro ⟨i, j⟩ ⟨h1, h2, h3, h4⟩
 simp only at h1 h2 h3 h4
 simp only
 by_cases hij : i < j
 ·obtain ⟨y, hy⟩ := get_of (l := l) (i := (i + j) / 2) (by omega)
  have e1 : ((i : Int) + (j : Int)) / 2 = (((i + j) / 2 : Nat) : Int) := by omega
  have hle := lessI_p y x
  by_cases hyx : y < x
  ·repeat' (first|refine Sp.h ?_|refine Lk.r rfl ?_|refine Rf.mk rfl ?_|refine xA ?_|refine xI ?_|refine xO ?_|(apply Cvk.i64;(focus rfl);(focus omega))|(apply Cvk.u64;(focus rfl);(focus omega))|(apply Cl.p (hle);focus repeat' constructor))
   exact PA.lp ((i + j) / 2 + 1, j) xE ⟨⟨by simp only;omega, h2, fun q z hq hz => by
    simp only at hq
    by_cases hqe : q = (i + j) / 2
    ·subst hqe;rw [hy] at hz;cases hz;exact hyx
    ·have := srtI_at hs (show q < (i + j) / 2 by omega) hz hy;omega, h4⟩, by simp only;omega⟩
  ·repeat' (first|refine Sp.h ?_|refine Lk.r rfl ?_|refine Rf.mk rfl ?_|refine xA ?_|refine xB ?_|refine xI ?_|refine xO ?_|(apply Cvk.i64;(focus rfl);(focus omega))|(apply Cvk.u64;(focus rfl);(focus omega))|(apply Cl.p (hle);focus repeat' constructor))
   exact PA.lp (i, (i + j) / 2) xE ⟨⟨by simp only;omega, by simp only;omega, h3, fun q z hq hz h => by
    simp only at hq
    by_cases hqe : q = (i + j) / 2
    ·subst hqe;rw [hy] at hz;cases hz;exact hyx h
    ·have := srtI_at hs (show (i + j) / 2 < q by omega) hy hz;omega⟩, by simp only;omega⟩
 ·have hije : i = j := by omega
  subst hije
  have hpos := posI_of h2 h3 h4
  have hm := hmem i hpos h3 h4
  rw [hpos]
  by_cases hin : i < l.length
  ·obtain ⟨y, hy⟩ := get_of hin
   have hme : x ∈ l ↔ y = x := hm.trans (by rw [hy];simp)
   rw [show decide (x ∈ l) = decide (y = x) from decide_eq_decide.2 hme]
   repeat' (first|refine Sp.h ?_|refine Lk.r rfl ?_|refine Rf.mk rfl ?_|refine xA ?_|refine xB ?_|(refine Bd.mk ?_ ?_ <;> intro _)|refine xI ?_|refine xN ?_|(apply Cl.p (isNaNS_p _);focus repeat' constructor))
   all_goals exact Fin.p rfl (by first|rw [decide_eq_true (by first|rfl|assumption)] | rw [decide_eq_false (by assumption)])
  ·have : decide (x ∈ l) = false := decide_eq_false (fun h => by have := (List.getElem?_eq_some_iff.1 (hm.1 h)).1;omega)
   rw [this]
   repeat' (first|refine Sp.h ?_|refine Lk.r rfl ?_|refine Rf.mk rfl ?_|refine xB ?_|refine xN ?_|(apply Cl.p (isNaNS_p _);(focus repeat' (first|fail))))
   all_goals exact Fin.p rfl rfl
def rowI (x : Int) : List Value := [.int .i64 x]
theorem rowI_map (l : List Int) : (l.map rowI).map valR = l.map intC := by rw [List.map_map];rfl
theorem with_eq {l : List Int} {n : Int} (hs : SrtI l) (hn : n ∉ l) : withP l n = l.take (posI l n) ++ n :: l.drop (posI l n) := by
 rw [withP, if_neg hn]
 have key : ∀ l : List Int, SrtI l → n ∉ l → l.filter (· < n) = l.take (posI l n) ∧ l.filter (n < ·) = l.drop (posI l n) := by
  intro l
  induction l with
  | nil => intro _ _;exact ⟨rfl, rfl⟩
  | cons a l ih =>
   intro hs hn
   obtain ⟨s1, s2⟩ := List.pairwise_cons.1 hs
   obtain ⟨i1, i2⟩ := ih s2 (fun h => hn (List.mem_cons_of_mem _ h))
   by_cases ha : a < n
   ·have hp : posI (a :: l) n = posI l n + 1 := by simp [posI, idxN, ha]
    rw [hp, List.take_succ_cons, List.drop_succ_cons, List.filter_cons_of_pos (by simpa using ha), List.filter_cons_of_neg (by simp;omega), i1, i2]
    exact ⟨rfl, rfl⟩
   ·have hp : posI (a :: l) n = 0 := by simp [posI, idxN, ha]
    have hne : a ≠ n := fun e => hn (e ▸ List.mem_cons_self)
    rw [hp, List.take_zero, List.drop_zero]
    refine ⟨List.filter_eq_nil_iff.2 fun y hy => ?_, List.filter_eq_self.2 fun y hy => ?_⟩
    ·rcases List.mem_cons.1 hy with rfl|hy
     ·simp;omega
     ·have := s1 y hy;simp;omega
    ·rcases List.mem_cons.1 hy with rfl|hy
     ·simp;omega
     ·have := s1 y hy;simp;omega
 obtain ⟨k1, k2⟩ := key l hs hn
 rw [k1, k2]
theorem insertN_a (w u : Value) (l : List Int) (n : Int) (i : Nat) (hi : i ≤ l.length) (hl : l.length ≤ 1000000) :
  CallA Tryz.prog 165 [.ow w, it i, .ow u] [arrR w 3 1 l intC, arrR u 3 1 [[it n]] id] fun q own => ∃ w', q = .ow w' ∧ own = [arrR w' 3 1 (l.take i ++ n :: l.drop i) intC] := by
 have h := insertI_a w u (l.map rowI) (rowI n) i (by simpa using hi) (by simpa using hl)
 rw [arrR_eq (l := l.map rowI) (f := valR) (m := l) (g := intC) (rowI_map l), arrR_eq (l := [rowI n]) (f := valR) (m := [[it n]]) (g := id) rfl] at h
 refine h.mono ?_
 rintro _ _ ⟨w', rfl, rfl⟩
 refine ⟨w', rfl, ?_⟩
 rw [show (l.map rowI).take i ++ rowI n :: (l.map rowI).drop i = (l.take i ++ n :: l.drop i).map rowI by simp]
 rw [arrR_eq (rowI_map _)]
theorem with_p (l : List Int) (n : Int) (hs : SrtI l) (hl : l.length ≤ 100000) : CallP Tryz.prog 106 [ints l, it n] (ints (withP l n)) := by
 have hb := binI_p l n hs (by omega)
 have hc := clone_o l (by omega)
 by_cases hn : n ∈ l
 ·rw [show withP l n = l from if_pos hn]
  rw [decide_eq_true hn] at hb
  refine CallA.of pg ord106 Tryz.func106 rfl Tryz.ntmps106 Tryz.results106 rfl fun h0 G0 O0 => ?_
  repeat' (first|refine Sp.h ?_|refine Lk.r rfl ?_|refine Rf.mk rfl ?_|refine xN ?_|(apply Cl.p (hb);focus repeat' constructor))
  exact Fin.p rfl rfl
 ·have hpl : posI l n ≤ l.length := idxN_le _ _
  rw [decide_eq_false hn] at hb
  rw [with_eq hs hn]
  refine CallA.fz (T := 3) (by simp;omega) ?_
  refine CallA.of pg ord106 Tryz.func106 rfl Tryz.ntmps106 Tryz.results106 rfl fun h0 G0 O0 => ?_
  repeat' (first|refine Sp.h ?_|refine Lk.r rfl ?_|refine Rf.mk rfl ?_|(apply Cl.p (hb);focus repeat' constructor))
  (refine Cl.use (hc) (by repeat' (first|exact Lend.nil|apply Lend.keep|fail)) .nil rfl ?_;rintro _ _ ⟨_, rfl, rfl⟩)
  repeat' (first|refine Sp.h ?_|refine Lk.r rfl ?_|refine Rf.mk rfl ?_|refine All.mk fun _=>?_|(apply Fk.r;focus repeat' first|infer_instance|constructor)|refine Rf.mk ⟨rfl, rfl, rfl⟩ ?_|fail)
  rename_i w u
  have hi := insertN_a w u l n (posI l n) hpl (by omega)
  refine xW (hi) ?_
  rintro _ _ ⟨w', rfl, rfl⟩
  repeat' (first|refine Sp.h ?_|refine Lk.r rfl ?_|refine xN ?_|fail)
  exact ⟨_, _, .one (.same (.z)), _, rfl, rfl⟩
end Go.Proofs.YtmjllbjfkafhdaaGreatDoor
