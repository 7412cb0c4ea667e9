/- Part 9 of the ground of this proof: what its texts say of the model, the program and the plain data; conditions: those that are named. -/
import Derived.Shelf.Slices.In.SortNone
import Derived.Test.YtmllihbhphnolaaGreatT08
namespace Go.Proofs.YtmllihbhphnolaaGreat
open Go Go.CF
set_option maxRecDepth 20000
/-! ### Searches in numbers -/
theorem indexI_p {g : FuncId} {p : Int → Bool} (hg : ∀ x, CallP Tryz.prog g [it x] (bl (p x))) (he : en g = true) (l : List Int) :
  CallP Tryz.prog 268 [ints l, .fn g []] (it (idxI p l)) := by
 refine CallA.of pg ord268 Tryz.func268 rfl Tryz.ntmps268 Tryz.results268 rfl fun h0 G0 O0 => ?_
 repeat' (first|refine Sp.h ?_|refine Lk.r rfl ?_|refine Rf.mk rfl ?_|(refine Im.mk ?_;intro _)|fail)
 refine CA.loop (fun i : Nat => ⟨[(0, ints l), (1, .fn g []), (7, it (l.length : Nat)), (8, it i)], []⟩)
  (fun i => i ≤ l.length ∧ ∀ j y, j < i → l[j]? = some y → p y = false) (fun i => l.length - i) 0 xE ⟨Nat.zero_le _, fun j y h => by omega⟩ ?_
 rintro i ⟨hi, hj⟩
 by_cases hin : i < l.length
 ·obtain ⟨e, hx⟩ := get_of hin
  repeat' (first|refine Sp.h ?_|refine Lk.r rfl ?_|refine Rf.mk rfl ?_|refine xA ?_|(refine Bd.mk ?_ ?_ <;> intro _)|refine xI ?_|refine xN ?_|(apply Rf.mk;(focus assumption))|refine xO ?_|(apply Cl.p (hg e);(focus repeat' (first|exact Lend.nil|apply Lend.keep|fail))))
  ·rename_i hp
   exact Fin.p rfl (by rw [idxI, idxN_of hx hp hj, if_pos hin])
  ·rename_i hp
   refine PA.lp (i + 1) xE ⟨⟨hin, fun j y h1 h2 => ?_⟩, by omega⟩
   by_cases hij : j = i
   ·subst hij;rw [hx] at h2;cases h2;simpa using hp
   ·exact hj j y (by omega) h2
 ·repeat' (first|refine Sp.h ?_|refine Lk.r rfl ?_|refine Rf.mk rfl ?_|refine xB ?_|refine xN ?_|fail)
  exact Fin.p rfl (by rw [idxI, idxN_none (fun x hx => by obtain ⟨j, hx⟩ := List.getElem?_of_mem hx;exact hj j x (by have := (List.getElem?_eq_some_iff.1 hx).1;omega) hx), if_neg (by omega)])
theorem containsI_p {g : FuncId} {p : Int → Bool} (hg : ∀ x, CallP Tryz.prog g [it x] (bl (p x))) (he : en g = true) (l : List Int) :
  CallP Tryz.prog 225 [ints l, .fn g []] (bl (decide (idxN p l < l.length))) := by
 refine CallA.of pg ord225 Tryz.func225 rfl Tryz.ntmps225 Tryz.results225 rfl fun h0 G0 O0 => ?_
 repeat' (first|refine Sp.h ?_|refine Lk.r rfl ?_|refine Rf.mk rfl ?_|refine xN ?_|(apply Cl.p (indexI_p hg he l);(focus repeat' (first|exact Lend.nil|apply Lend.keep|fail))))
 refine Fin.p rfl (vb (decide_eq_decide.2 ?_))
 unfold idxI
 split <;> omega
theorem inside1_p (x : Int) : CallP Tryz.prog 226 [it x] (bl (decide (¬ (-1000000000 ≤ x ∧ x ≤ 1000000000)))) := by
 refine CallA.of pg ord226 Tryz.func226 rfl Tryz.ntmps226 Tryz.results226 rfl fun h0 G0 O0 => ?_
 repeat' (first|refine Sp.h ?_|refine Lk.r rfl ?_|refine Rf.mk rfl ?_|refine xA ?_|refine xB ?_|(refine Bd.mk ?_ ?_ <;> intro _)|refine xN ?_|fail)
 all_goals exact Fin.p rfl (vb (by first|exact (decide_eq_true (by omega)).symm|exact (decide_eq_false (by omega)).symm|exact decide_eq_decide.2 (by omega)))
theorem inside35_p (l : List Int) : CallP Tryz.prog 149 [ints l] (bl (decide (insS l))) := by
 refine CallA.of pg ord149 Tryz.func149 rfl Tryz.ntmps149 Tryz.results149 rfl fun h0 G0 O0 => ?_
 repeat' (first|refine Sp.h ?_|refine Lk.r rfl ?_|refine Rf.mk rfl ?_|refine xN ?_|(apply Cl.p (containsI_p inside1_p rfl l);(focus repeat' (first|exact Lend.nil|apply Lend.keep|fail))))
 refine Fin.p rfl (vb (decide_eq_decide.2 ?_))
 rw [idxN_lt]
 constructor
 ·intro h x hx
  exact Classical.byContradiction fun h9 => h ⟨x, hx, decide_eq_true h9⟩
 ·rintro h ⟨x, hx, h9⟩
  have := h x hx
  have := of_decide_eq_true h9
  omega
/-! ### Clones -/
theorem cloneM_a (l : List MgS) (hl : l.length ≤ 1000000) (hm : ∀ g ∈ l, g.marks.length ≤ 1000000) :
  CallA Tryz.prog 133 [mgs l] [] fun r own => ∃ v L, r = .ow v ∧ L.map MgE.g = l ∧ own = outR v L := by
 have hc := cloneG_o l (by omega)
 refine CallA.of pg ord133 Tryz.func133 rfl Tryz.ntmps133 Tryz.results133 rfl fun h0 G0 O0 => ?_
 repeat' (first|refine Sp.h ?_|refine Lk.r rfl ?_|refine Rf.mk rfl ?_|fail)
 (refine Cl.use (hc) (by repeat' (first|exact Lend.nil|apply Lend.keep|fail)) .nil rfl ?_;rintro _ _ ⟨_, rfl, rfl⟩)
 repeat' (first|refine Sp.h ?_|refine Lk.r rfl ?_|refine Rf.mk rfl ?_|refine xU ?_|fail)
 rename_i v
 apply CA.retype (m := l.map ogG) (g := ogC)
 focus (repeat constructor)
 focus exact ogG_map l
 refine CA.bunNil mgeR ?_
 refine CA.loop (fun x : Nat × List MgE => ⟨[(3, .ow v), (8, it (l.length : Nat)), (9, it x.1)], [arrR v 123 3 (x.2.map ogE ++ (l.drop x.1).map ogG) ogC, bunR (x.2.map mgeR)]⟩)
  (fun x => x.1 ≤ l.length ∧ x.2.map MgE.g = l.take x.1) (fun x => l.length - x.1) (0, []) xE ⟨Nat.zero_le _, by simp⟩ ?_
 rintro ⟨i, D⟩ ⟨hi, hD⟩
 simp only at hi hD
 simp only
 by_cases hin : i < l.length
 ·obtain ⟨g, hg⟩ := get_of hin
  have hgm := hm g (List.mem_of_getElem? hg)
  have hDl : D.length = i := by have := congrArg List.length hD;simp at this;omega
  have hdr : (l.drop i).map ogG = ogG g :: (l.drop (i + 1)).map ogG := by
   have h9 := List.drop_eq_getElem_cons hin
   rw [(List.getElem?_eq_some_iff.1 hg).2] at h9
   rw [h9, List.map_cons]
  have hrow : (D.map ogE ++ (l.drop i).map ogG)[i]? = some (g.put, g.drop, mks g.marks) := by
   rw [hdr, List.getElem?_append_right (by simp;omega)];simp [hDl, ogG]
  have hcl := cloneK_o g.marks (by omega)
  repeat' (first|refine Sp.h ?_|refine Lk.r rfl ?_|refine Rf.mk rfl ?_|refine xA ?_|refine xU ?_|refine xI ?_|refine xJ ?_|fail)
  (refine Cl.use (hcl) (by repeat' (first|exact Lend.nil|apply Lend.keep|fail)) .nil rfl ?_;rintro _ _ ⟨_, rfl, rfl⟩)
  (repeat' (first|(show CA _ _ (Code.region 6 _ _) _ _;apply Stopped.out)|refine Sp.h ?_|refine Lk.r rfl ?_|refine Rf.mk rfl ?_|refine xU ?_|refine xI ?_|refine xJ ?_|refine xV ?_|(apply Up.inv;(focus repeat constructor);(focus infer_instance))|fail));any_goals apply Stopped.mk
  rename_i w2
  have hset : (D.map ogE ++ (l.drop i).map ogG).set i (g.put, g.drop, .ow w2) = (D ++ [(MgE.mk g.put g.drop w2 g.marks)]).map ogE ++ (l.drop (i + 1)).map ogG := by
   rw [hdr, List.set_append, if_neg (by simp;omega)]
   simp [hDl, ogE]
  rw [hset]
  apply CA.bunPush (g := mgeR) (x := (MgE.mk g.put g.drop w2 g.marks))
  focus (repeat constructor)
  focus (repeat constructor)
  repeat' (first|refine Sp.h ?_|refine Lk.r rfl ?_|refine Rf.mk rfl ?_|refine xO ?_|fail)
  exact PA.lp (i + 1, D ++ [(MgE.mk g.put g.drop w2 g.marks)]) xE ⟨⟨hin, by simp only;rw [List.map_append, hD, List.take_add_one, hg];rfl⟩, by simp only;omega⟩
 ·have hie : i = l.length := by omega
  subst hie
  rw [List.take_length] at hD
  rw [List.drop_length, List.map_nil, List.append_nil]
  (repeat' (first|(show CA _ _ (Code.region 7 _ _) _ _;apply Stopped.out)|refine Sp.h ?_|refine Lk.r rfl ?_|refine Rf.mk rfl ?_|refine xB ?_|fail));any_goals apply Stopped.mk
  apply CA.retype (m := D) (g := mgeC)
  focus (repeat constructor)
  focus exact ogE_map D
  repeat' (first|refine Sp.h ?_|refine Lk.r rfl ?_|refine Rf.mk rfl ?_|refine xN ?_|fail)
  exact ⟨_, _, .one (.same (.z)), _, D, rfl, hD, rfl⟩
theorem cloneV_o (l : List EvS) (hl : l.length ≤ 1000000000) : CallO Tryz.prog 126 [evs l] 37 13 l evC := by
 refine CallA.of pg ord126 Tryz.func126 rfl Tryz.ntmps126 Tryz.results126 rfl fun h0 G0 O0 => ?_
 repeat' (first|refine Sp.h ?_|refine Lk.r rfl ?_|refine Rf.mk rfl ?_|(refine Bd.mk ?_ ?_ <;> intro _)|refine xP ?_|(refine Im.mk ?_;intro _)|(refine All.mk ?_;intro _)|refine xU ?_|refine Ce.l rfl ?_|(apply Fk.r;focus repeat' first|infer_instance|constructor)|refine xN ?_|refine Rf.mk ⟨rfl, rfl⟩ ?_|refine Rf.mk ⟨rfl, rfl, rfl⟩ ?_|refine Mp.same ?_|fail)
 ·rename_i b hb hbt
  have hl0 : l = [] := Decidable.byContradiction fun h => by rw [hb h] at hbt;cases hbt
  subst hl0
  exact ⟨_, _, .one (.nils (.z)), _, rfl, rfl⟩
 ·repeat' (first|fail)
  exact ⟨_, _, .one (.same (.z)), _, rfl, rfl⟩
structure EvE where
 e : EvS
 w : Value
def evQ (e : EvS) (p : AV) : List AV := [iv e.rep, iv e.num, iv e.time, p, iv e.kind, iv e.action, iv e.gk, iv e.gi, iv e.ge, iv e.ga, iv e.to, iv e.place, iv e.serial]
def eveC (x : EvE) : List AV := evQ x.e (.ow x.w)
abbrev eveR (x : EvE) : Res := arrR x.w 3 1 x.e.past intC
def oeC (x : EvS × AV) : List AV := evQ x.1 x.2
instance {e : EvS} {p : AV} : Inv oeC [iv e.rep, iv e.num, iv e.time, p, iv e.kind, iv e.action, iv e.gk, iv e.gi, iv e.ge, iv e.ga, iv e.to, iv e.place, iv e.serial] (e, p) := ⟨rfl⟩
def oeE (x : EvE) : EvS × AV := (x.e, .ow x.w)
def oeG (e : EvS) : EvS × AV := (e, ints e.past)
theorem oeE_map (l : List EvE) : l.map eveC = (l.map oeE).map oeC := by rw [List.map_map];rfl
theorem oeG_map (l : List EvS) : (l.map oeG).map oeC = l.map evC := by rw [List.map_map];rfl
abbrev outE (v : Value) (L : List EvE) : List Res := [arrR v 37 13 L eveC, bunR (L.map eveR)]
theorem outE_fx {v : Value} {L : List EvE} (hl : L.length ≤ 1000000) (hm : ∀ x ∈ L, x.e.past.length ≤ 1000000) {l l' : List AV} {o own : List Res} (ht : FX o l l' own) : FX (outE v L ++ o) (.ow v :: l) (evs (L.map EvE.e) :: l') own := by
 refine .sl .here (by omega) (.unb .here ?_) ht
 refine FX.rows (o := o) (r := eveR) (f := eveC) (g := evC) (φ := EvE.e) L fun x hx o' => ?_
 have := hm x hx
 exact .le (ALe.refl _) (.le (ALe.refl _) (.le (ALe.refl _) (.sl .here (by omega) (FX.refl _) (FX.refl _))))
set_option maxHeartbeats 2000000 in
theorem cloneEs_a (l : List EvS) (hl : l.length ≤ 1000000) (hm : ∀ e ∈ l, e.past.length ≤ 1000000) :
  CallA Tryz.prog 95 [evs l] [] fun r own => ∃ v L, r = .ow v ∧ L.map EvE.e = l ∧ own = outE v L := by
 have hc := cloneV_o l (by omega)
 refine CallA.of pg ord95 Tryz.func95 rfl Tryz.ntmps95 Tryz.results95 rfl fun h0 G0 O0 => ?_
 repeat' (first|refine Sp.h ?_|refine Lk.r rfl ?_|refine Rf.mk rfl ?_|fail)
 (refine Cl.use (hc) (by repeat' (first|exact Lend.nil|apply Lend.keep|fail)) .nil rfl ?_;rintro _ _ ⟨_, rfl, rfl⟩)
 repeat' (first|refine Sp.h ?_|refine Lk.r rfl ?_|refine Rf.mk rfl ?_|refine xU ?_|fail)
 rename_i v
 apply CA.retype (m := l.map oeG) (g := oeC)
 focus (repeat constructor)
 focus exact oeG_map l
 refine CA.bunNil eveR ?_
 refine CA.loop (fun x : Nat × List EvE => ⟨[(3, .ow v), (8, it (l.length : Nat)), (9, it x.1)], [arrR v 37 13 (x.2.map oeE ++ (l.drop x.1).map oeG) oeC, bunR (x.2.map eveR)]⟩)
  (fun x => x.1 ≤ l.length ∧ x.2.map EvE.e = l.take x.1) (fun x => l.length - x.1) (0, []) xE ⟨Nat.zero_le _, by simp⟩ ?_
 rintro ⟨i, D⟩ ⟨hi, hD⟩
 simp only at hi hD
 simp only
 by_cases hin : i < l.length
 ·obtain ⟨g, hg⟩ := get_of hin
  have hgm := hm g (List.mem_of_getElem? hg)
  have hDl : D.length = i := by have := congrArg List.length hD;simp at this;omega
  have hdr : (l.drop i).map oeG = oeG g :: (l.drop (i + 1)).map oeG := by
   have h9 := List.drop_eq_getElem_cons hin
   rw [(List.getElem?_eq_some_iff.1 hg).2] at h9
   rw [h9, List.map_cons]
  have hrow : (D.map oeE ++ (l.drop i).map oeG)[i]? = some (g, ints g.past) := by
   rw [hdr, List.getElem?_append_right (by simp;omega)];simp [hDl, oeG]
  have hcl := clone_o g.past (by omega)
  repeat' (first|refine Sp.h ?_|refine Lk.r rfl ?_|refine Rf.mk rfl ?_|refine xA ?_|refine xU ?_|refine xI ?_|refine xJ ?_|fail)
  (refine Cl.use (hcl) (by repeat' (first|exact Lend.nil|apply Lend.keep|fail)) .nil rfl ?_;rintro _ _ ⟨_, rfl, rfl⟩)
  (repeat' (first|(show CA _ _ (Code.region 6 _ _) _ _;apply Stopped.out)|refine Sp.h ?_|refine Lk.r rfl ?_|refine Rf.mk rfl ?_|refine xU ?_|refine xI ?_|refine xJ ?_|refine xV ?_|(apply Up.inv;(focus repeat constructor);(focus infer_instance))|fail));any_goals apply Stopped.mk
  rename_i w2
  have hset : (D.map oeE ++ (l.drop i).map oeG).set i (g, .ow w2) = (D ++ [(EvE.mk g w2)]).map oeE ++ (l.drop (i + 1)).map oeG := by
   rw [hdr, List.set_append, if_neg (by simp;omega)]
   simp [hDl, oeE]
  rw [hset]
  apply CA.bunPush (g := eveR) (x := (EvE.mk g w2))
  focus (repeat constructor)
  focus (repeat constructor)
  repeat' (first|refine Sp.h ?_|refine Lk.r rfl ?_|refine Rf.mk rfl ?_|refine xO ?_|fail)
  exact PA.lp (i + 1, D ++ [(EvE.mk g w2)]) xE ⟨⟨hin, by simp only;rw [List.map_append, hD, List.take_add_one, hg];rfl⟩, by simp only;omega⟩
 ·have hie : i = l.length := by omega
  subst hie
  rw [List.take_length] at hD
  rw [List.drop_length, List.map_nil, List.append_nil]
  (repeat' (first|(show CA _ _ (Code.region 7 _ _) _ _;apply Stopped.out)|refine Sp.h ?_|refine Lk.r rfl ?_|refine Rf.mk rfl ?_|refine xB ?_|fail));any_goals apply Stopped.mk
  apply CA.retype (m := D) (g := eveC)
  focus (repeat constructor)
  focus exact oeE_map D
  repeat' (first|refine Sp.h ?_|refine Lk.r rfl ?_|refine Rf.mk rfl ?_|refine xN ?_|fail)
  exact ⟨_, _, .one (.same (.z)), _, D, rfl, hD, rfl⟩
theorem cloneEs_p (l : List EvS) (hl : l.length ≤ 1000000) (hm : ∀ e ∈ l, e.past.length ≤ 1000000) : CallP Tryz.prog 95 [evs l] (evs l) := by
 refine CallA.fx (cloneEs_a l hl hm) ?_
 rintro r o ⟨v, L, rfl, rfl, rfl⟩
 have := outE_fx (v := v) (L := L) (o := []) (by simpa using hl) (fun x hx => hm x.e (List.mem_map_of_mem hx)) .nil
 simpa using this
/-! ### The strict cells of a model -/
theorem cells35_p (m : ModS) (hm : LayOK m.sorts m.tables) : CallP Tryz.prog 148 [mdl m] (it (strF m : Nat)) := by
 have hml := hm.2.2.1
 refine CallA.of pg ord148 Tryz.func148 rfl Tryz.ntmps148 Tryz.results148 rfl fun h0 G0 O0 => ?_
 repeat' (first|refine Sp.h ?_|refine Lk.r rfl ?_|refine Rf.mk rfl ?_|(refine Im.mk ?_;intro _)|(refine All.mk ?_;intro _)|refine xT ?_|fail)
 rename_i b1 _
 refine CA.loop (fun i : Nat => ⟨[(1, pm b1), (3, it (strN m (m.tables.take i) : Nat)), (10, tbls m.tables), (11, it (m.tables.length : Nat)), (12, it i)], [mR b1 m]⟩) (fun i => i ≤ m.tables.length) (fun i => m.tables.length - i) 0 xE (Nat.zero_le _) ?_
 intro i hi
 by_cases hin : i < m.tables.length
 ·obtain ⟨t, ht⟩ := get_of hin
  have hc := (hm.2.2.2 t (List.mem_of_getElem? ht)).1
  have h1 := sz_fit (m := m) hc
  have hn := strN_le hm i hi
  have hsu := strN_succ (m := m) ht
  by_cases hst : isStrict t.kind
  ·rw [if_pos hst] at hsu
   have h0 : t.kind = 0 ∨ t.kind = 1 := hst
   rcases h0 with h0|h0
   all_goals repeat' (first|refine Sp.h ?_|refine Lk.r rfl ?_|refine Rf.mk rfl ?_|refine xA ?_|refine xB ?_|(refine Im.mk ?_;intro _)|(refine All.mk ?_;intro _)|refine xT ?_|refine xI ?_|refine Ch.l ⟨rfl, rfl⟩ ?_|(apply SetAsk.r;focus repeat' constructor)|refine xN ?_|fail)
   all_goals rename_i b5 _
   all_goals refine CA.loop (fun k : Nat => ⟨[(1, pm b1), (3, it (strN m (m.tables.take i) : Nat)), (5, pm b5), (6, it (prodF m.sorts (t.cols.take k))), (10, tbls m.tables), (11, it (m.tables.length : Nat)), (12, it i), (25, ints t.cols), (26, it (t.cols.length : Nat)), (27, it k)], [mR b1 m, blkR b5 157 (tblC t)]⟩) (fun k => k ≤ t.cols.length) (fun k => t.cols.length - k) 0 xE (Nat.zero_le _) ?_
   all_goals intro k hk
   all_goals by_cases hkn : k < t.cols.length
   any_goals
    obtain ⟨x, hx⟩ := get_of hkn
    obtain ⟨j, rfl, y, hy, hy1, hy2⟩ := col_get hc hx
    have hb := prod_succ hx (show m.sorts[((j : Int)).toNat]? = some y by simpa using hy)
    have hp := prod_fit hc k
    have hp2 := prod_fit hc (k + 1)
    rw [hb] at hp2
    have hj := (List.getElem?_eq_some_iff.1 hy).1
    repeat' (first|refine Sp.h ?_|refine Lk.r rfl ?_|refine Rf.mk rfl ?_|refine xA ?_|refine xP ?_|refine xT ?_|refine xI ?_|refine xO ?_|fail)
    rw [← hb]
    exact PA.lp (k + 1) xE ⟨hkn, by omega⟩
   all_goals
    have hke : k = t.cols.length := by omega
    subst hke
    simp only [List.take_length]
    rw [h1.1]
    repeat' (first|refine Sp.h ?_|refine Lk.r rfl ?_|refine Rf.mk rfl ?_|refine xB ?_|refine xO ?_|fail)
    rw [show ((strN m (m.tables.take i) : Nat) : Int) + (szF m t : Nat) = (strN m (m.tables.take (i + 1)) : Nat) by omega]
    exact PA.lp (i + 1) xE ⟨hin, by omega⟩
  ·rw [if_neg hst] at hsu
   unfold isStrict at hst
   repeat' (first|refine Sp.h ?_|refine Lk.r rfl ?_|refine Rf.mk rfl ?_|refine xA ?_|refine xB ?_|(refine All.mk ?_;intro _)|refine xT ?_|refine xI ?_|refine Ch.l ⟨rfl, rfl⟩ ?_|(apply SetAsk.r;focus repeat' constructor)|refine xN ?_|refine xO ?_|fail)
   all_goals rw [show strN m (m.tables.take i) = strN m (m.tables.take (i + 1)) by omega]
   all_goals exact PA.lp (i + 1) xE ⟨hin, by omega⟩
 ·have hie : i = m.tables.length := by omega
  subst hie
  simp only [List.take_length]
  repeat' (first|refine Sp.h ?_|refine Lk.r rfl ?_|refine Rf.mk rfl ?_|refine xB ?_|refine xN ?_|fail)
  exact Fin.p rfl rfl
end Go.Proofs.YtmllihbhphnolaaGreat
namespace Go.Proofs.YtmllihbhphnolaaGreat
open Go Go.CF
set_option maxRecDepth 20000
theorem ovF_int : OvF Tryz.prog 256 22 :=
 ⟨_, 4, Tryz.func256, by kernel_rfl, by kernel_rfl, by kernel_rfl, by kernel_rfl⟩
instance (priority := 2000) {T : Nat → Ord × (Nat → Cls)} {n : Nat} {rs : Array ResultVar} {K : AV → List Res → Prop} {h0 : Heap} {G0 O0 : Nat → Prop} {d : Tmp} {x y : Operand} {tys : Array TypeId} {ty : TypeId} {e : EA} {o : List Res} {N : NA} :
  Sp (SA ⟨Tryz.prog, tt, en, pg, T, n, rs, K, h0, G0, O0, ⟨none⟩⟩ .loud (some d) (.call { callee := .value (.func 256), args := #[x, y], argTypes := tys }) ty e o N)
   (Lk (evA e x) fun a => Lk (evA e y) fun b => Ovl o a b (N ((d, .val (.bool false)) :: e) o)) := ⟨fun h => SA.ovl ovF_int (tS := 22) rfl rfl h⟩
set_option maxHeartbeats 1000000 in
theorem insertI_a (w u : Value) (L : List (List Value)) (r : List Value) (i : Nat) (hi : i ≤ L.length) (hl : L.length ≤ 1000000) :
  CallA Tryz.prog 191 [.ow w, it i, .ow u] [arrR w 3 1 L valR, arrR u 3 1 [r] valR] fun q own => ∃ w', q = .ow w' ∧ own = [arrR w' 3 1 (L.take i ++ r :: L.drop i) valR] := by
 refine CallA.of pg ord191 Tryz.func191 rfl Tryz.ntmps191 Tryz.results191 rfl fun h0 G0 O0 => ?_
 have h1r : ([r] : List (List Value)).length = 1 := rfl
 by_cases hin : i = L.length
 ·subst hin
  rw [List.take_length, List.drop_length]
  repeat' (first|refine Sp.h ?_|refine Lk.r rfl ?_|refine Rf.mk rfl ?_|refine xA ?_|refine xB ?_|refine xP ?_|(refine All.mk ?_;intro _)|refine xU ?_|refine Ce.r ?_|refine xN ?_|refine Rf.mk ⟨rfl, rfl⟩ ?_|(apply Jx.r;(focus exact rfl);(focus first|omega|(simp;done)|(simp;omega)))|refine Mp.same ?_|fail)
  exact ⟨_, _, .one (.same (.z)), _, rfl, rfl⟩
 have hin : i < L.length := by omega
 by_cases hc : capV w < L.length + 1
 ·repeat' (first|refine Sp.h ?_|refine Lk.r rfl ?_|refine Rf.mk rfl ?_|refine xA ?_|refine xB ?_|(refine Im.mk ?_;intro _)|refine xU ?_|refine Rf.mk ⟨rfl, rfl⟩ ?_|refine Rf.mk ⟨rfl, rfl, rfl⟩ ?_|(apply Jx.r;(focus exact rfl);(focus first|omega|(simp;done)|(simp;omega)))|refine Mp.same ?_|refine xO ?_|fail)
  refine Jx.r (j := L.length + [r].length - i) (by omega) (by omega) ?_
  (repeat' (first|(show CA _ _ (Code.region 12 _ _) _ _;apply Stopped.out)|refine Sp.h ?_|refine Lk.r rfl ?_|refine Rf.mk rfl ?_|refine OpK.r rfl ?_|refine xP ?_|(refine All.mk ?_;intro _)|refine xU ?_|refine Rf.mk ⟨rfl, rfl⟩ ?_|refine Rf.mk ⟨rfl, rfl, rfl⟩ ?_|(apply Jx.r;(focus exact rfl);(focus first|omega|(simp;done)|(simp;omega)))|refine Mp.same ?_|refine xD ?_|refine xO ?_|(apply CpS.part;(focus (repeat constructor;done)))|(apply TkX.r;(focus repeat constructor))|fail));any_goals apply Stopped.mk
  apply CA.ofX 9
  focus rfl
  focus (repeat constructor)
  focus (simp;omega)
  repeat' (first|refine Sp.h ?_|refine Lk.r rfl ?_|refine Rf.mk rfl ?_|refine xN ?_|fail)
  rw [ins_eq2 hin _ _ _ _ _ _ (by omega) (by omega) (by omega) (by simp;omega) (by omega) h1r]
  exact ⟨_, _, .one (.same (.z)), _, rfl, rfl⟩
 ·(repeat' (first|(show CA _ _ (Code.region 13 _ _) _ _;apply Stopped.out)|refine Sp.h ?_|refine Lk.r rfl ?_|refine Rf.mk rfl ?_|refine xB ?_|(refine Im.mk ?_;intro _)|refine xU ?_|(apply Jx.r;(focus exact rfl);(focus first|omega|(simp;done)|(simp;omega)))|refine xO ?_|fail));any_goals apply Stopped.mk
  apply CA.toX 0
  focus rfl
  focus (repeat constructor)
  intro _
  (repeat' (first|(show CA _ _ (Code.region 16 _ _) _ _;apply Stopped.out)|refine Sp.h ?_|refine Lk.r rfl ?_|refine Rf.mk rfl ?_|refine xB ?_|refine OpK.r rfl ?_|refine xP ?_|refine Rf.mk ⟨rfl, rfl, rfl⟩ ?_|(apply Jx.r;(focus exact rfl);(focus first|omega|(simp;done)|(simp;omega)))|refine xD ?_|refine xO ?_|(apply CpS.part;(focus (repeat constructor;done)))|(apply TkX.r;(focus repeat constructor))|(apply ExX.long;(focus rfl);(focus first|omega|(simp <;> omega));(focus first|omega|(simp <;> omega)))|(apply Ovl.mk';(focus repeat constructor);(focus repeat constructor);(focus decide))|fail));any_goals apply Stopped.mk
  refine CA.sub ⟨[(0, .ow _), (1, it i), (2, .ow u)], [arrR _ 3 1 _ valR, arrR u 3 1 [r] valR]⟩ xE ?_
  repeat' (first|refine Sp.h ?_|refine Lk.r rfl ?_|refine Rf.mk rfl ?_|refine xU ?_|refine xN ?_|refine Rf.mk ⟨rfl, rfl, rfl⟩ ?_|(apply Jx.r;(focus exact rfl);(focus first|omega|(simp;done)|(simp;omega)))|refine Mp.same ?_|(apply CpS.all;(focus (repeat constructor;done)))|fail)
  rw [ins_eq hin _ _ _ (by omega) (by simp;omega) h1r]
  exact ⟨_, _, .one (.same (.z)), _, rfl, rfl⟩
theorem isNaNS_p (x : Int) : CallP Tryz.prog 255 [it x] (bl false) := by
 refine CallA.of pg ord255 Tryz.func255 rfl Tryz.ntmps255 Tryz.results255 rfl fun h0 G0 O0 => ?_
 repeat' (first|refine Sp.h ?_|refine Lk.r rfl ?_|refine Rf.mk rfl ?_|refine xN ?_|fail)
 all_goals exact Fin.p rfl (vb (by simp))
theorem lessI_p (x y : Int) : CallP Tryz.prog 218 [it x, it y] (bl (decide (x < y))) := by
 refine CallA.of pg ord218 Tryz.func218 rfl Tryz.ntmps218 Tryz.results218 rfl fun h0 G0 O0 => ?_
 repeat' (first|refine Sp.h ?_|refine Lk.r rfl ?_|refine Rf.mk rfl ?_|refine xN ?_|(apply Cl.p (isNaN_p _);(focus repeat' (first|exact Lend.nil|apply Lend.keep|fail))))
 all_goals exact Fin.p rfl (vb (by first|rfl|(simp;done)|(simp;omega)))
noncomputable def posI (l : List Int) (n : Int) : Nat := idxN (fun y => decide (¬ y < n)) l
theorem posI_of {l : List Int} {x : Int} {n : Nat} (hn : n ≤ l.length) (h1 : ∀ (q : Nat) y, q < n → l[q]? = some y → y < x) (h2 : ∀ (q : Nat) y, n ≤ q → l[q]? = some y → ¬ y < x) : posI l x = n := by
 by_cases hnl : n < l.length
 ·obtain ⟨y, hy⟩ := get_of hnl
  exact idxN_of hy (decide_eq_true (h2 n y (Nat.le_refl _) hy)) fun j z hj hz => decide_eq_false (fun h => h (h1 j z hj hz))
 ·have hne : n = l.length := by omega
  rw [hne]
  exact idxN_none fun y hy => by
   obtain ⟨j, hj⟩ := List.getElem?_of_mem hy
   exact decide_eq_false (fun h => h (h1 j y (by have := (List.getElem?_eq_some_iff.1 hj).1;omega) hj))
abbrev SrtI (l : List Int) : Prop := l.Pairwise (· < ·)
theorem srtI_at {l : List Int} (h : SrtI l) {i j : Nat} {a b : Int} (hij : i < j) (ha : l[i]? = some a) (hb : l[j]? = some b) : a < b := by
 obtain ⟨h1, rfl⟩ := List.getElem?_eq_some_iff.1 ha
 obtain ⟨h2, rfl⟩ := List.getElem?_eq_some_iff.1 hb
 exact List.pairwise_iff_getElem.1 h i j h1 h2 hij
theorem binI_p (l : List Int) (x : Int) (hs : SrtI l) (hl : l.length ≤ 1000000) :
  CallP Tryz.prog 190 [ints l, it x] (.tup [it (posI l x : Nat), bl (decide (x ∈ l))]) := by
 have hmem : ∀ n, posI l x = n → (∀ (q : Nat) y, q < n → l[q]? = some y → y < x) → (∀ (q : Nat) y, n ≤ q → l[q]? = some y → ¬ y < x) → (x ∈ l ↔ l[n]? = some x) := fun n _ h1 h2 => by
  constructor
  ·intro h
   obtain ⟨j, hj⟩ := List.getElem?_of_mem h
   rcases Nat.lt_trichotomy j n with hjn|hjn|hjn
   ·have := h1 j x hjn hj;omega
   ·rw [← hjn];exact hj
   ·have hjl := (List.getElem?_eq_some_iff.1 hj).1
    obtain ⟨z, hz⟩ := get_of (l := l) (i := n) (by omega)
    have := srtI_at hs hjn hz hj
    exact absurd this (h2 n z (Nat.le_refl _) hz)
  ·exact List.mem_of_getElem?
 refine CallA.of pg ord190 Tryz.func190 rfl Tryz.ntmps190 Tryz.results190 rfl fun h0 G0 O0 => ?_
 repeat' (first|refine Sp.h ?_|refine Lk.r rfl ?_|refine Rf.mk rfl ?_|(refine Im.mk ?_;intro _)|fail)
 refine CA.loop (fun p : Nat × Nat => ⟨[(0, ints l), (1, it x), (6, it (l.length : Nat)), (7, it p.1), (8, it p.2)], []⟩)
  (fun p => p.1 ≤ p.2 ∧ p.2 ≤ l.length ∧ (∀ (q : Nat) y, q < p.1 → l[q]? = some y → y < x) ∧ ∀ (q : Nat) y, p.2 ≤ q → l[q]? = some y → ¬ y < x) (fun p => p.2 - p.1) (0, l.length) xE
  ⟨Nat.zero_le _, Nat.le_refl _, fun q y h => absurd h (Nat.not_lt_zero q), fun q y h h' => by have := (List.getElem?_eq_some_iff.1 h').1;simp only at h;omega⟩ ?_
 rintro ⟨i, j⟩ ⟨h1, h2, h3, h4⟩
 simp only at h1 h2 h3 h4
 simp only
 by_cases hij : i < j
 ·obtain ⟨y, hy⟩ := get_of (l := l) (i := (i + j) / 2) (by omega)
  have e1 : ((i : Int) + (j : Int)) / 2 = (((i + j) / 2 : Nat) : Int) := by omega
  have hle := lessI_p y x
  by_cases hyx : y < x
  ·repeat' (first|refine Sp.h ?_|refine Lk.r rfl ?_|refine Rf.mk rfl ?_|refine xA ?_|refine xI ?_|refine xO ?_|(apply Cvk.i64;(focus rfl);(focus omega))|(apply Cvk.u64;(focus rfl);(focus omega))|(apply Cl.p (hle);(focus repeat' (first|exact Lend.nil|apply Lend.keep|fail))))
   exact PA.lp ((i + j) / 2 + 1, j) xE ⟨⟨by simp only;omega, h2, fun q z hq hz => by
    simp only at hq
    by_cases hqe : q = (i + j) / 2
    ·subst hqe;rw [hy] at hz;cases hz;exact hyx
    ·have := srtI_at hs (show q < (i + j) / 2 by omega) hz hy;omega, h4⟩, by simp only;omega⟩
  ·repeat' (first|refine Sp.h ?_|refine Lk.r rfl ?_|refine Rf.mk rfl ?_|refine xA ?_|refine xB ?_|refine xI ?_|refine xO ?_|(apply Cvk.i64;(focus rfl);(focus omega))|(apply Cvk.u64;(focus rfl);(focus omega))|(apply Cl.p (hle);(focus repeat' (first|exact Lend.nil|apply Lend.keep|fail))))
   exact PA.lp (i, (i + j) / 2) xE ⟨⟨by simp only;omega, by simp only;omega, h3, fun q z hq hz h => by
    simp only at hq
    by_cases hqe : q = (i + j) / 2
    ·subst hqe;rw [hy] at hz;cases hz;exact hyx h
    ·have := srtI_at hs (show (i + j) / 2 < q by omega) hy hz;omega⟩, by simp only;omega⟩
 ·have hije : i = j := by omega
  subst hije
  have hpos := posI_of h2 h3 h4
  have hm := hmem i hpos h3 h4
  rw [hpos]
  by_cases hin : i < l.length
  ·obtain ⟨y, hy⟩ := get_of hin
   have hme : x ∈ l ↔ y = x := hm.trans (by rw [hy];simp)
   rw [show decide (x ∈ l) = decide (y = x) from decide_eq_decide.2 hme]
   repeat' (first|refine Sp.h ?_|refine Lk.r rfl ?_|refine Rf.mk rfl ?_|refine xA ?_|refine xB ?_|(refine Bd.mk ?_ ?_ <;> intro _)|refine xI ?_|refine xN ?_|(apply Cl.p (isNaNS_p _);(focus repeat' (first|exact Lend.nil|apply Lend.keep|fail))))
   all_goals exact Fin.p rfl (by first|rw [decide_eq_true (by first|rfl|assumption)] | rw [decide_eq_false (by assumption)])
  ·have : decide (x ∈ l) = false := decide_eq_false (fun h => by have := (List.getElem?_eq_some_iff.1 (hm.1 h)).1;omega)
   rw [this]
   repeat' (first|refine Sp.h ?_|refine Lk.r rfl ?_|refine Rf.mk rfl ?_|refine xB ?_|refine xN ?_|(apply Cl.p (isNaNS_p _);(focus repeat' (first|fail))))
   all_goals exact Fin.p rfl rfl
def rowI (x : Int) : List Value := [.int .i64 x]
theorem rowI_map (l : List Int) : (l.map rowI).map valR = l.map intC := by rw [List.map_map];rfl
theorem with_eq {l : List Int} {n : Int} (hs : SrtI l) (hn : n ∉ l) : withP l n = l.take (posI l n) ++ n :: l.drop (posI l n) := by
 rw [withP, if_neg hn]
 have key : ∀ l : List Int, SrtI l → n ∉ l → l.filter (· < n) = l.take (posI l n) ∧ l.filter (n < ·) = l.drop (posI l n) := by
  intro l
  induction l with
  | nil => intro _ _;exact ⟨rfl, rfl⟩
  | cons a l ih =>
   intro hs hn
   obtain ⟨s1, s2⟩ := List.pairwise_cons.1 hs
   obtain ⟨i1, i2⟩ := ih s2 (fun h => hn (List.mem_cons_of_mem _ h))
   by_cases ha : a < n
   ·have hp : posI (a :: l) n = posI l n + 1 := by simp [posI, idxN, ha]
    rw [hp, List.take_succ_cons, List.drop_succ_cons, List.filter_cons_of_pos (by simpa using ha), List.filter_cons_of_neg (by simp;omega), i1, i2]
    exact ⟨rfl, rfl⟩
   ·have hp : posI (a :: l) n = 0 := by simp [posI, idxN, ha]
    have hne : a ≠ n := fun e => hn (e ▸ List.mem_cons_self)
    rw [hp, List.take_zero, List.drop_zero]
    refine ⟨List.filter_eq_nil_iff.2 fun y hy => ?_, List.filter_eq_self.2 fun y hy => ?_⟩
    ·rcases List.mem_cons.1 hy with rfl|hy
     ·simp;omega
     ·have := s1 y hy;simp;omega
    ·rcases List.mem_cons.1 hy with rfl|hy
     ·simp;omega
     ·have := s1 y hy;simp;omega
 obtain ⟨k1, k2⟩ := key l hs hn
 rw [k1, k2]
theorem insertN_a (w u : Value) (l : List Int) (n : Int) (i : Nat) (hi : i ≤ l.length) (hl : l.length ≤ 1000000) :
  CallA Tryz.prog 191 [.ow w, it i, .ow u] [arrR w 3 1 l intC, arrR u 3 1 [[it n]] id] fun q own => ∃ w', q = .ow w' ∧ own = [arrR w' 3 1 (l.take i ++ n :: l.drop i) intC] := by
 have h := insertI_a w u (l.map rowI) (rowI n) i (by simpa using hi) (by simpa using hl)
 rw [arrR_eq (l := l.map rowI) (f := valR) (m := l) (g := intC) (rowI_map l), arrR_eq (l := [rowI n]) (f := valR) (m := [[it n]]) (g := id) rfl] at h
 refine h.mono ?_
 rintro _ _ ⟨w', rfl, rfl⟩
 refine ⟨w', rfl, ?_⟩
 rw [show (l.map rowI).take i ++ rowI n :: (l.map rowI).drop i = (l.take i ++ n :: l.drop i).map rowI by simp]
 rw [arrR_eq (rowI_map _)]
theorem with_p (l : List Int) (n : Int) (hs : SrtI l) (hl : l.length ≤ 100000) : CallP Tryz.prog 132 [ints l, it n] (ints (withP l n)) := by
 have hb := binI_p l n hs (by omega)
 have hc := clone_o l (by omega)
 by_cases hn : n ∈ l
 ·rw [show withP l n = l from if_pos hn]
  rw [decide_eq_true hn] at hb
  refine CallA.of pg ord132 Tryz.func132 rfl Tryz.ntmps132 Tryz.results132 rfl fun h0 G0 O0 => ?_
  repeat' (first|refine Sp.h ?_|refine Lk.r rfl ?_|refine Rf.mk rfl ?_|refine xN ?_|(apply Cl.p (hb);(focus repeat' (first|exact Lend.nil|apply Lend.keep|fail))))
  exact Fin.p rfl rfl
 ·have hpl : posI l n ≤ l.length := idxN_le _ _
  rw [decide_eq_false hn] at hb
  rw [with_eq hs hn]
  refine CallA.fz (T := 3) (by simp;omega) ?_
  refine CallA.of pg ord132 Tryz.func132 rfl Tryz.ntmps132 Tryz.results132 rfl fun h0 G0 O0 => ?_
  repeat' (first|refine Sp.h ?_|refine Lk.r rfl ?_|refine Rf.mk rfl ?_|(apply Cl.p (hb);(focus repeat' (first|exact Lend.nil|apply Lend.keep|fail))))
  (refine Cl.use (hc) (by repeat' (first|exact Lend.nil|apply Lend.keep|fail)) .nil rfl ?_;rintro _ _ ⟨_, rfl, rfl⟩)
  repeat' (first|refine Sp.h ?_|refine Lk.r rfl ?_|refine Rf.mk rfl ?_|(refine All.mk ?_;intro _)|(apply Fk.r;focus repeat' first|infer_instance|constructor)|refine Rf.mk ⟨rfl, rfl, rfl⟩ ?_|fail)
  rename_i w u
  have hi := insertN_a w u l n (posI l n) hpl (by omega)
  refine xW (hi) ?_
  rintro _ _ ⟨w', rfl, rfl⟩
  repeat' (first|refine Sp.h ?_|refine Lk.r rfl ?_|refine xN ?_|fail)
  exact ⟨_, _, .one (.same (.z)), _, rfl, rfl⟩
end Go.Proofs.YtmllihbhphnolaaGreat
namespace Go.Proofs.YtmllihbhphnolaaGreat
open Go Go.CF
set_option maxRecDepth 20000
abbrev basC (b : NowS) : List AV := [ints b.clock, it b.time, ints b.state, mgs b.merged, nl0, nl0, ints b.places]
abbrev basA (b : NowS) : AV := .agg (basC b)
abbrev stoC (m : ModS) (b : NowS) (v : Value) (w : NowS) : List AV := [ints m.sorts, tbls m.tables, .sl 1 m.families strC, .sl 6 m.cons cnsC, .sl 3 m.ops opC, .sl 5 m.acts actC, .sl 3 m.hides updC, ints b.clock, it b.time, ints b.state, mgs b.merged, nl0, nl0, ints b.places, .ow v, ints w.clock, it w.time, ints w.state, mgs w.merged, ints w.places]
abbrev stoR (p : Nat) (m : ModS) (b : NowS) (v : Value) (w : NowS) : Res := blkR p 165 (stoC m b v w)
abbrev stpC (s : Nat) (e : EvS) (w : NowS) : List AV := [pm s, iv e.rep, iv e.num, iv e.time, ints e.past, iv e.kind, iv e.action, iv e.gk, iv e.gi, iv e.ge, iv e.ga, iv e.to, iv e.place, iv e.serial, ints w.clock, it w.time, ints w.state, mgs w.merged, ints w.places]
abbrev stpR (p s : Nat) (e : EvS) (w : NowS) : Res := blkR p 175 (stpC s e w)
theorem name35_p (e : EvS) : CallP Tryz.prog 88 [evA' e] (dotC e.rep e.num) := by
 refine CallA.of pg ord88 Tryz.func88 rfl Tryz.ntmps88 Tryz.results88 rfl fun h0 G0 O0 => ?_
 repeat' (first|refine Sp.h ?_|refine Lk.r rfl ?_|refine Rf.mk rfl ?_|(refine All.mk ?_;intro _)|refine xT ?_|(apply SetAsk.r;focus repeat' constructor)|(apply Fk.r;focus repeat' first|infer_instance|constructor)|refine xN ?_|fail)
 exact Fin.p rfl rfl
theorem count_a (x s : Nat) (e : EvS) (w : NowS) (h0 : 0 ≤ e.rep) (h1 : e.rep.toNat < w.clock.length) (hl : w.clock.length ≤ 5) :
  CallA Tryz.prog 90 [pm x] [stpR x s e w] fun r own => r = it 0 ∧ own = [stpR x s e { w with clock := cntF w.clock e }] := by
 obtain ⟨y, hy⟩ := get_of h1
 have hc := clone_o w.clock (by omega)
 have hcnt : cntF w.clock e = w.clock.set e.rep.toNat (max y e.num) := by rw [cntF, hy];rfl
 rw [hcnt]
 refine CallA.of pg ord90 Tryz.func90 rfl Tryz.ntmps90 Tryz.results90 rfl fun h0 G0 O0 => ?_
 repeat' (first|refine Sp.h ?_|refine Lk.r rfl ?_|refine Rf.mk rfl ?_|refine xT ?_|fail)
 (refine Cl.use (hc) (by repeat' (first|exact Lend.nil|apply Lend.keep|fail)) .nil rfl ?_;rintro _ _ ⟨_, rfl, rfl⟩)
 (repeat' (first|(show CA _ _ (Code.region 3 _ _) _ _;apply Stopped.out)|refine Sp.h ?_|refine Lk.r rfl ?_|refine Rf.mk rfl ?_|refine OpK.r rfl ?_|refine xU ?_|refine xT ?_|(apply Ix.r;(focus assumption);(focus omega))|refine xJ ?_|refine xV ?_|refine Up.r rfl ?_|refine xD ?_|fail));any_goals apply Stopped.mk
 (apply CA.own;(focus (apply OX.blk (b := x);(focus repeat constructor);(focus (repeat' (first|exact FX.nil|(apply FX.s1;(focus repeat constructor);(focus first|omega|(simp;done)|(simp;omega)))|apply FX.k)));(focus repeat constructor))))
 repeat' (first|refine Sp.h ?_|refine Lk.r rfl ?_|refine Rf.mk rfl ?_|refine xN ?_|fail)
 exact ⟨_, _, .one (.same (.z)), rfl, rfl⟩
set_option maxHeartbeats 4000000 in
theorem order_a (x s : Nat) (m : ModS) (b : NowS) (v : Value) (evs' : List EvS) (wn : NowS) (e : EvS) (w : NowS) (hl : evs'.length ≤ 1000000) :
  CallA Tryz.prog 91 [pm x] [stpR x s e w, stoR s m b v wn, arrR v 37 13 evs' evC] fun r own => (LateE evs' e ∧ r = it 2 ∧ own = [stoR s m b v wn, arrR v 37 13 evs' evC]) ∨ (¬ LateE evs' e ∧ r = it 0 ∧ own = [stpR x s e { w with time := max w.time e.time }, stoR s m b v wn, arrR v 37 13 evs' evC]) := by
 refine CallA.of pg ord91 Tryz.func91 rfl Tryz.ntmps91 Tryz.results91 rfl fun h0 G0 O0 => ?_
 repeat' (first|refine Sp.h ?_|refine Lk.r rfl ?_|refine Rf.mk rfl ?_|refine xU ?_|refine xT ?_|fail)
 refine CA.loop (fun i : Nat => ⟨[(0, pm x), (11, .ow v), (12, it (evs'.length : Nat)), (13, it i)], [stpR x s e w, stoR s m b v wn, arrR v 37 13 evs' evC]⟩) (fun i => i ≤ evs'.length ∧ ∀ y ∈ evs'.take i, ¬ (HasC e.past y.rep y.num ∧ e.time ≤ y.time)) (fun i => evs'.length - i) 0 xE ⟨Nat.zero_le _, by simp⟩ ?_
 rintro i ⟨hi, ha⟩
 by_cases hin : i < evs'.length
 ·obtain ⟨y, hy⟩ := get_of hin
  have h1 := name35_p y
  have h2 := hasC_p e.past y.rep y.num
  by_cases hh : HasC e.past y.rep y.num
  ·by_cases ht : e.time ≤ y.time
   ·repeat' (first|refine Sp.h ?_|refine Lk.r rfl ?_|refine Rf.mk rfl ?_|refine xA ?_|refine OpK.r rfl ?_|(refine All.mk ?_;intro _)|refine xU ?_|refine xT ?_|refine xI ?_|refine xJ ?_|refine Ch.l ⟨rfl, rfl⟩ ?_|(apply SetAsk.r;focus repeat' constructor)|refine xN ?_|refine xD ?_|(apply Cl.p (h1);(focus ((repeat' (first|exact Lend.nil|apply Lend.keep|fail));done)))|(apply Cl.p (h2);(focus ((repeat' (first|exact Lend.nil|apply Lend.keep|fail));done))))
    all_goals exact ⟨_, _, .one (.same (.z)), .inl ⟨⟨y, List.mem_of_getElem? hy, hh, ht⟩, rfl, rfl⟩⟩
   ·repeat' (first|refine Sp.h ?_|refine Lk.r rfl ?_|refine Rf.mk rfl ?_|refine xA ?_|refine xB ?_|refine OpK.r rfl ?_|(refine All.mk ?_;intro _)|refine xU ?_|refine xT ?_|refine xI ?_|refine xJ ?_|refine Ch.l ⟨rfl, rfl⟩ ?_|(apply SetAsk.r;focus repeat' constructor)|refine xN ?_|refine xD ?_|refine xO ?_|(apply Cl.p (h1);(focus ((repeat' (first|exact Lend.nil|apply Lend.keep|fail));done)))|(apply Cl.p (h2);(focus ((repeat' (first|exact Lend.nil|apply Lend.keep|fail));done))))
    all_goals exact PA.lp (i + 1) xE ⟨⟨hin, all_succ hy ha (fun h => ht h.2)⟩, by omega⟩
  ·repeat' (first|refine Sp.h ?_|refine Lk.r rfl ?_|refine Rf.mk rfl ?_|refine xA ?_|refine xB ?_|refine OpK.r rfl ?_|(refine All.mk ?_;intro _)|refine xU ?_|refine xT ?_|refine xI ?_|refine xJ ?_|refine Ch.l ⟨rfl, rfl⟩ ?_|(apply SetAsk.r;focus repeat' constructor)|refine xN ?_|refine xD ?_|refine xO ?_|(apply Cl.p (h1);(focus ((repeat' (first|exact Lend.nil|apply Lend.keep|fail));done)))|(apply Cl.p (h2);(focus ((repeat' (first|exact Lend.nil|apply Lend.keep|fail));done))))
   all_goals exact PA.lp (i + 1) xE ⟨⟨hin, all_succ hy ha (fun h => hh h.1)⟩, by omega⟩
 ·have hie : i = evs'.length := by omega
  subst hie
  rw [List.take_length] at ha
  repeat' (first|refine Sp.h ?_|refine Lk.r rfl ?_|refine Rf.mk rfl ?_|refine xB ?_|refine OpK.r rfl ?_|refine xT ?_|refine xV ?_|refine xN ?_|refine xD ?_|fail)
  exact ⟨_, _, .one (.same (.z)), .inr ⟨fun ⟨y, hy, h⟩ => ha y hy h, rfl, rfl⟩⟩
theorem dltF_at {m : ModS} {e : EvS} {a : ActS} (h : m.acts[e.action.toNat]? = some a) : dltF m e = a.eff.delta := by rw [dltF, h]
theorem addD_succ {s : List Int} {d : List (Int × Int)} {i : Nat} {p : Int × Int} (h : d[i]? = some p) : addD s (d.take (i + 1)) = add1 (addD s (d.take i)) p := by
 rw [List.take_add_one, h, addD, List.foldl_append];rfl
theorem addD_length (d : List (Int × Int)) : ∀ s : List Int, (addD s d).length = s.length := by
 induction d with
 | nil => intro s;rfl
 | cons p d ih => intro s;rw [addD, List.foldl_cons];exact (ih _).trans (by simp [add1])
set_option maxHeartbeats 4000000 in
theorem sadd_a (x s : Nat) (m : ModS) (b : NowS) (v : Value) (wn : NowS) (e : EvS) (w : NowS) (hm : MOK m) (hst : w.state.length = strF m) (hev : e.kind = 0 → 0 ≤ e.action ∧ e.action < (m.acts.length : Nat)) :
  CallA Tryz.prog 92 [pm x] [stpR x s e w, stoR s m b v wn] fun r own => (e.kind = 0 ∧ ¬ insS (addE m w.state e) ∧ r = it 2 ∧ own = [stoR s m b v wn]) ∨ (¬ (e.kind = 0 ∧ ¬ insS (addE m w.state e)) ∧ r = it 0 ∧ own = [stpR x s e { w with state := addE m w.state e }, stoR s m b v wn]) := by
 by_cases hk : e.kind = 0
 ·obtain ⟨h1, h2⟩ := hev hk
  obtain ⟨a, ha⟩ := get_of (l := m.acts) (i := e.action.toNat) (by omega)
  have hd := dltF_at ha
  have heo := hm.eff a (List.mem_of_getElem? ha)
  have hsl := hm.str
  have hadd : addE m w.state e = addD w.state a.eff.delta := by rw [addE, if_pos hk, hd]
  rw [hadd]
  have hc := clone_o w.state (by omega)
  have hin := inside35_p (addD w.state a.eff.delta)
  refine CallA.of pg ord92 Tryz.func92 rfl Tryz.ntmps92 Tryz.results92 rfl fun h0 G0 O0 => ?_
  repeat' (first|refine Sp.h ?_|refine Lk.r rfl ?_|refine Rf.mk rfl ?_|refine xA ?_|refine xT ?_|fail)
  (refine Cl.use (hc) (by repeat' (first|exact Lend.nil|apply Lend.keep|fail)) .nil rfl ?_;rintro _ _ ⟨_, rfl, rfl⟩)
  repeat' (first|refine Sp.h ?_|refine Lk.r rfl ?_|refine Rf.mk rfl ?_|refine OpK.r rfl ?_|(refine Im.mk ?_;intro _)|refine xT ?_|(apply Ix.r;(focus assumption);(focus omega))|refine xV ?_|refine xD ?_|fail)
  rename_i u _
  refine CA.loop (fun i : Nat => ⟨[(0, pm x), (37, terms a.eff.delta), (38, it (a.eff.delta.length : Nat)), (39, it i)], [arrR u 3 1 (addD w.state (a.eff.delta.take i)) intC, blkR x 175 [pm s, iv e.rep, iv e.num, iv e.time, ints e.past, iv e.kind, iv e.action, iv e.gk, iv e.gi, iv e.ge, iv e.ga, iv e.to, iv e.place, iv e.serial, ints w.clock, it w.time, .ow u, mgs w.merged, ints w.places], stoR s m b v wn]⟩) (fun i => i ≤ a.eff.delta.length) (fun i => a.eff.delta.length - i) 0 xE (Nat.zero_le _) ?_
  intro i hi
  have hlen := addD_length (a.eff.delta.take i) w.state
  by_cases hil : i < a.eff.delta.length
  ·obtain ⟨p, hp⟩ := get_of hil
   obtain ⟨p1, p2⟩ := heo.d p (List.mem_of_getElem? hp)
   obtain ⟨z, hz⟩ := get_of (l := addD w.state (a.eff.delta.take i)) (i := p.1.toNat) (by omega)
   have hs := addD_succ (s := w.state) hp
   rw [show add1 (addD w.state (a.eff.delta.take i)) p = (addD w.state (a.eff.delta.take i)).set p.1.toNat (IntKind.i64.wrap (z + p.2)) by rw [add1, hz];rfl] at hs
   repeat' (first|refine Sp.h ?_|refine Lk.r rfl ?_|refine Rf.mk rfl ?_|refine xA ?_|refine OpK.r rfl ?_|(refine All.mk ?_;intro _)|refine xU ?_|refine xT ?_|refine xI ?_|(apply Ix.r;(focus assumption);(focus omega))|refine xJ ?_|refine Ch.l ⟨rfl, rfl⟩ ?_|(apply SetAsk.r;focus repeat' constructor)|refine xN ?_|refine xD ?_|fail)
   refine ⟨?_⟩
   repeat' (first|refine Sp.h ?_|refine Lk.r rfl ?_|refine Rf.mk rfl ?_|refine OpK.r rfl ?_|refine xU ?_|(apply Ix.r;(focus assumption);(focus omega))|refine xJ ?_|refine xV ?_|refine Up.r rfl ?_|refine xO ?_|fail)
   rw [← hs]
   exact PA.lp (i + 1) xE ⟨hil, by omega⟩
  ·have hie : i = a.eff.delta.length := by omega
   subst hie
   rw [List.take_length] at hlen ⊢
   by_cases hS : insS (addD w.state a.eff.delta)
   ·rw [decide_eq_true hS] at hin
    repeat' (first|refine Sp.h ?_|refine Lk.r rfl ?_|refine Rf.mk rfl ?_|refine xB ?_|refine xT ?_|fail)
    (apply Cl.lend (hin);(focus repeat' (first|exact Lend.nil|(apply Lend.lend;(focus repeat constructor);(focus first|omega|(simp;omega)))|fail)))
    (repeat' (first|(show CA _ _ (Code.region 11 _ _) _ _;apply Stopped.out)|refine Sp.h ?_|refine Lk.r rfl ?_|refine xA ?_|fail));any_goals apply Stopped.mk
    (apply CA.own;(focus (apply OX.blk (b := x);(focus repeat constructor);(focus (repeat' (first|exact FX.nil|(apply FX.s1;(focus repeat constructor);(focus first|omega|(simp;done)|(simp;omega)))|apply FX.k)));(focus repeat constructor))))
    repeat' (first|refine Sp.h ?_|refine Lk.r rfl ?_|refine Rf.mk rfl ?_|refine xN ?_|fail)
    exact ⟨_, _, .one (.same (.z)), .inr ⟨fun h => h.2 hS, rfl, rfl⟩⟩
   ·rw [decide_eq_false hS] at hin
    repeat' (first|refine Sp.h ?_|refine Lk.r rfl ?_|refine Rf.mk rfl ?_|refine xB ?_|refine xT ?_|fail)
    (apply Cl.lend (hin);(focus repeat' (first|exact Lend.nil|(apply Lend.lend;(focus repeat constructor);(focus first|omega|(simp;omega)))|fail)))
    repeat' (first|refine Sp.h ?_|refine Lk.r rfl ?_|refine Rf.mk rfl ?_|refine xB ?_|refine xN ?_|fail)
    exact ⟨_, _, .one (.same (.z)), .inl ⟨hk, hS, rfl, rfl⟩⟩
 ·have hadd : addE m w.state e = w.state := if_neg hk
  rw [hadd]
  refine CallA.of pg ord92 Tryz.func92 rfl Tryz.ntmps92 Tryz.results92 rfl fun h0 G0 O0 => ?_
  repeat' (first|refine Sp.h ?_|refine Lk.r rfl ?_|refine Rf.mk rfl ?_|refine xB ?_|refine xT ?_|refine xN ?_|fail)
  exact ⟨_, _, .one (.same (.z)), .inr ⟨fun h => hk h.1, rfl, rfl⟩⟩
theorem applyT_p (m : ModS) (l : List MgS) (e : EvS) (hm : MOK m) : CallP Tryz.prog 131 [mdl m, mgs l, evA' e] (.tup [mgs (applyF m l e).2, it (applyF m l e).1]) := by
 by_cases h0 : (applyF m l e).1 = 0
 ·obtain ⟨h1, _, h3, _, h5⟩ := applyF_ok h0
  have := h1.1
  have := hm.mrg
  have hF : applyF m l e = (0, (applyF m l e).2) := by rw [← h0]
  rw [h0]
  exact applyOK_p m l e _ hm hF (by omega) h5
 ·refine CallA.fx (apply_a m l e hm) ?_
  have h2 : (applyF m l e).2 = [] := by
   unfold applyF at h0 ⊢
   split
   ·rfl
   ·rename_i h1
    rw [if_neg h1] at h0
    split
    ·rename_i h2;rw [if_pos h2] at h0;exact absurd rfl h0
    ·rename_i h2
     rw [if_neg h2] at h0
     unfold gatherF at h0 ⊢
     split
     ·rfl
     ·rename_i h3
      rw [h3] at h0
      simp only at h0
      split
      ·rfl
      ·rename_i h4;rw [if_neg h4] at h0;exact absurd rfl h0
  rw [h2]
  rintro r o (⟨v, L, h, _⟩|⟨_, rfl, rfl⟩)
  ·exact absurd h h0
  ·exact .tup (FX.kn (FX.refl _)) .nil
theorem update_a (x s : Nat) (m : ModS) (b : NowS) (v : Value) (wn : NowS) (e : EvS) (w : NowS) (hm : MOK m) :
  CallA Tryz.prog 93 [pm x] [stpR x s e w, stoR s m b v wn] fun r own => r = it (applyF m w.merged e).1 ∧ own = [stpR x s e { w with merged := (applyF m w.merged e).2 }, stoR s m b v wn] := by
 have ha := applyT_p m w.merged e hm
 refine CallA.of pg ord93 Tryz.func93 rfl Tryz.ntmps93 Tryz.results93 rfl fun h0 G0 O0 => ?_
 repeat' (first|refine Sp.h ?_|refine Lk.r rfl ?_|refine Rf.mk rfl ?_|refine OpK.r rfl ?_|refine xT ?_|refine Ch.r ?_|refine xV ?_|refine xN ?_|refine xD ?_|(apply Cl.p (ha);(focus repeat' (first|exact Lend.nil|apply Lend.keep|fail))))
 exact ⟨_, _, .one (.same (.z)), rfl, rfl⟩
theorem place_a (x s : Nat) (e : EvS) (w : NowS) (hp : SrtI w.places) (hl : w.places.length ≤ 100000) :
  CallA Tryz.prog 94 [pm x] [stpR x s e w] fun r own => r = it 0 ∧ own = [stpR x s e { w with places := plE w.places e }] := by
 have hw := with_p w.places e.place hp hl
 by_cases h : 0 < e.place
 ·rw [show plE w.places e = withP w.places e.place from if_pos h]
  refine CallA.of pg ord94 Tryz.func94 rfl Tryz.ntmps94 Tryz.results94 rfl fun h0 G0 O0 => ?_
  repeat' (first|refine Sp.h ?_|refine Lk.r rfl ?_|refine Rf.mk rfl ?_|refine xA ?_|refine OpK.r rfl ?_|refine xT ?_|refine xV ?_|refine xN ?_|refine xD ?_|(apply Cl.p (hw);(focus repeat' (first|exact Lend.nil|apply Lend.keep|fail))))
  exact ⟨_, _, .one (.same (.z)), rfl, rfl⟩
 ·rw [show plE w.places e = w.places from if_neg h]
  refine CallA.of pg ord94 Tryz.func94 rfl Tryz.ntmps94 Tryz.results94 rfl fun h0 G0 O0 => ?_
  repeat' (first|refine Sp.h ?_|refine Lk.r rfl ?_|refine Rf.mk rfl ?_|refine xB ?_|refine xT ?_|refine xN ?_|(apply Cl.p (hw);(focus repeat' (first|fail))))
  exact ⟨_, _, .one (.same (.z)), rfl, rfl⟩
theorem svalid_p (s : Nat) (m : ModS) (b : NowS) (v : Value) (w : NowS) (e : EvS) :
  CallA Tryz.prog 87 [pm s, evA' e] [stoR s m b v w] fun r own => r = bl (decide (EvV m (w.clock.length : Nat) e)) ∧ own = [stoR s m b v w] := by
 have hv := evalid_p m (w.clock.length : Nat) e
 refine CallA.of pg ord87 Tryz.func87 rfl Tryz.ntmps87 Tryz.results87 rfl fun h0 G0 O0 => ?_
 repeat' (first|refine Sp.h ?_|refine Lk.r rfl ?_|refine Rf.mk rfl ?_|refine OpK.r rfl ?_|(refine Im.mk ?_;intro _)|(refine All.mk ?_;intro _)|refine xT ?_|refine Ch.l ⟨rfl, rfl⟩ ?_|refine Ch.r ?_|refine xN ?_|refine xD ?_|(apply Cl.p (hv);(focus repeat' (first|exact Lend.nil|apply Lend.keep|fail))))
 exact ⟨_, _, .one (.same (.z)), rfl, rfl⟩
end Go.Proofs.YtmllihbhphnolaaGreat
namespace Go.CF
open Go
def AV.fb (f : FuncId) (bs : List AV) : AV := ⟨fun h G u => ∃ vs, u = .func (.func f) vs.toArray #[] ∧ RepT h G vs bs, by rintro h h' G v x ⟨vs, e, r⟩;exact ⟨vs, e, r.stp x⟩, by rintro h G G' v x ⟨vs, e, r⟩;exact ⟨vs, e, r.mono x⟩⟩
section
variable {Γ : Cx} {k : List KI} {e : EA} {o : List Res} {N : NA} {c : Cls} {d : Tmp} {ty : TypeId} {x y : Operand}
instance {f : FuncId} {bs : List AV} : OneA (.fb f bs) := ⟨by rintro h G u ⟨vs, rfl, _⟩;rfl⟩
instance {f : FuncId} : Sp (SA Γ c (some d) (.makeFunc (.func f) #[x] #[]) ty e o N) (Lk (evAs e [x]) fun cs => N ((d, .fb f cs) :: e) o) := ⟨fun ⟨cs, hcs, hn⟩ => ⟨fun env hp G Os c => by
 obtain ⟨vs, h1, h2⟩ := c.gets hcs
 exact St.makeFunc (l2 := []) h1 rfl (CN.mk (c.put d (a := .fb f cs) ⟨vs, rfl, h2⟩) hn)⟩⟩
instance {f : FuncId} {cs asx : List AV} {args : Array Operand} {tys : Array TypeId} : Sp (ClF Γ c d x args tys ty e o N (.fb f cs) asx) (Rf (Γ.fp.n = none) (Rf (Γ.en f = true) (Cl Γ c f (cs ++ asx) o fun r o' => N ((d, r) :: e) o'))) := ⟨fun ⟨hfp, he, h⟩ => ⟨fun ha hb hc => ⟨fun env hh G Os cn => by
 obtain ⟨v, g1, ws, rfl, g2⟩ := cn.get ha
 obtain ⟨vs, g3, g4⟩ := cn.gets hb
 exact St.callT (cap := []) Γ.ok g1 g3 he hc (by rw [List.append_nil];exact (cl_sa (dst := some d) cn (g2.app g4) hfp h).mono fun v h' hk => hk.2)⟩⟩⟩
end
end Go.CF
namespace Go.Proofs.YtmllihbhphnolaaGreat
open Go Go.CF
set_option maxRecDepth 20000
structure NowOK (m : ModS) (w : NowS) : Prop where
 clk : ValC w.clock
 st : w.state.length = strF m
 pls : SrtI w.places
 pll : w.places.length ≤ 100000
noncomputable def evsD (m : ModS) (evs : List EvS) (w : NowS) (e : EvS) : List EvS := if (deliverF m evs w e).1 = 0 then evs ++ [e] else evs
noncomputable def wI (m : ModS) (w : NowS) (e : EvS) : Nat → NowS
 | 0 => w
 | 1 => { w with clock := cntF w.clock e }
 | 2 => { w with clock := cntF w.clock e, time := max w.time e.time }
 | 3 => { w with clock := cntF w.clock e, time := max w.time e.time, state := addE m w.state e }
 | 4 => { w with clock := cntF w.clock e, time := max w.time e.time, state := addE m w.state e, merged := (applyF m w.merged e).2 }
 | _ => ⟨cntF w.clock e, max w.time e.time, addE m w.state e, (applyF m w.merged e).2, plE w.places e⟩
def fnL (x : Nat) : List (List AV) := [[AV.fb 90 [pm x]], [AV.fb 91 [pm x]], [AV.fb 92 [pm x]], [AV.fb 93 [pm x]], [AV.fb 94 [pm x]]]
theorem act_rng {e : EvS} (h : FormedE e) (hk : e.kind = 0) : 0 ≤ e.action := by
 have := (kind0 hk).1 h.2.2.2.2.2
 unfold Sub0 Btw at this
 omega
set_option maxHeartbeats 8000000 in
theorem deliver_a (s : Nat) (m : ModS) (b : NowS) (v : Value) (evl : List EvS) (w : NowS) (e : EvS) (hm : MOK m) (hw : NowOK m w) (hl : evl.length ≤ 100000) :
  CallA Tryz.prog 21 [pm s, evA' e] [stoR s m b v w, arrR v 37 13 evl evC] fun r own => r = it (deliverF m evl w e).1 ∧ ∃ v', own = [stoR s m b v' (deliverF m evl w e).2, arrR v' 37 13 (evsD m evl w e) evC] := by
 have hva := svalid_p s m b v w e
 by_cases h1 : EvV m (w.clock.length : Nat) e
 rotate_left
 ·have hF : deliverF m evl w e = (1, w) := by rw [deliverF, if_pos h1]
  rw [decide_eq_false h1] at hva
  rw [evsD, hF]
  refine CallA.of pg ord21 Tryz.func21 rfl Tryz.ntmps21 Tryz.results21 rfl fun h0 G0 O0 => ?_
  repeat' (first|refine Sp.h ?_|refine Lk.r rfl ?_|refine Rf.mk rfl ?_|(refine All.mk ?_;intro _)|refine xT ?_|refine Ch.l ⟨rfl, rfl⟩ ?_|fail)
  refine xW (hva) ?_
  rintro _ _ ⟨rfl, rfl⟩
  repeat' (first|refine Sp.h ?_|refine Lk.r rfl ?_|refine Rf.mk rfl ?_|refine xB ?_|refine xN ?_|fail)
  exact ⟨_, _, .one (.same (.z)), rfl, v, rfl⟩
 rw [decide_eq_true h1] at hva
 have hn := name35_p e
 have hh := hasC_p w.clock e.rep e.num
 by_cases h2 : HasC w.clock e.rep e.num
 ·have hF : deliverF m evl w e = (6, w) := by rw [deliverF, if_neg (fun h => h h1), if_pos h2]
  rw [decide_eq_true h2] at hh
  rw [evsD, hF]
  refine CallA.of pg ord21 Tryz.func21 rfl Tryz.ntmps21 Tryz.results21 rfl fun h0 G0 O0 => ?_
  repeat' (first|refine Sp.h ?_|refine Lk.r rfl ?_|refine Rf.mk rfl ?_|(refine All.mk ?_;intro _)|refine xT ?_|refine Ch.l ⟨rfl, rfl⟩ ?_|fail)
  refine xW (hva) ?_
  rintro _ _ ⟨rfl, rfl⟩
  repeat' (first|refine Sp.h ?_|refine Lk.r rfl ?_|refine Rf.mk rfl ?_|refine xA ?_|refine OpK.r rfl ?_|refine xT ?_|refine Ch.l ⟨rfl, rfl⟩ ?_|refine xN ?_|refine xD ?_|(apply Cl.p (hn);(focus ((repeat' (first|exact Lend.nil|apply Lend.keep|fail));done)))|(apply Cl.p (hh);(focus ((repeat' (first|exact Lend.nil|apply Lend.keep|fail));done))))
  exact ⟨_, _, .one (.same (.z)), rfl, v, rfl⟩
 rw [decide_eq_false h2] at hh
 have hmi := missing_o w.clock e.past
 have hal : AlikeC [w.clock, e.past] := (alike2 _ _).2 ⟨hw.clk, h1.1.1, by have := h1.2.1;omega⟩
 by_cases h3 : Ins e.past w.clock
 rotate_left
 ·have hF : deliverF m evl w e = (9, w) := by rw [deliverF, if_neg (fun h => h h1), if_neg h2, if_pos h3]
  rw [evsD, hF]
  refine CallA.of pg ord21 Tryz.func21 rfl Tryz.ntmps21 Tryz.results21 rfl fun h0 G0 O0 => ?_
  repeat' (first|refine Sp.h ?_|refine Lk.r rfl ?_|refine Rf.mk rfl ?_|(refine All.mk ?_;intro _)|refine xT ?_|refine Ch.l ⟨rfl, rfl⟩ ?_|fail)
  refine xW (hva) ?_
  rintro _ _ ⟨rfl, rfl⟩
  repeat' (first|refine Sp.h ?_|refine Lk.r rfl ?_|refine Rf.mk rfl ?_|refine xA ?_|refine OpK.r rfl ?_|refine xT ?_|refine Ch.l ⟨rfl, rfl⟩ ?_|refine xD ?_|(apply Cl.p (hn);(focus ((repeat' (first|exact Lend.nil|apply Lend.keep|fail));done)))|(apply Cl.p (hh);(focus ((repeat' (first|exact Lend.nil|apply Lend.keep|fail));done))))
  refine xW (hmi) ?_
  rintro _ _ ⟨u, l, rfl, rfl, hl1, hl2⟩
  have hl0 : 0 < l.length := List.length_pos_iff.2 fun h => h3 (hl1.1 h hal)
  repeat' (first|refine Sp.h ?_|refine Lk.r rfl ?_|refine Rf.mk rfl ?_|refine xA ?_|refine OpK.r rfl ?_|refine xU ?_|refine xN ?_|fail)
  exact ⟨_, _, .one (.same (.z)), rfl, v, rfl⟩
 have hrep : 0 ≤ e.rep ∧ e.rep.toNat < w.clock.length := by
  obtain ⟨_, f2, ⟨x, f3, _⟩, _⟩ := h1.1
  have := (List.getElem?_eq_some_iff.1 f3).1
  exact ⟨f2, by have := h1.2.1;omega⟩
 have hcl := hw.clk.2.2
 have hc4 : ∀ k, (wI m w e k).places = w.places ∨ 5 ≤ k := fun k => by
  match k with
  | 0 => exact .inl rfl
  | 1 => exact .inl rfl
  | 2 => exact .inl rfl
  | 3 => exact .inl rfl
  | 4 => exact .inl rfl
  | k + 5 => exact .inr (by omega)
 refine CallA.of pg ord21 Tryz.func21 rfl Tryz.ntmps21 Tryz.results21 rfl fun h0 G0 O0 => ?_
 repeat' (first|refine Sp.h ?_|refine Lk.r rfl ?_|refine Rf.mk rfl ?_|(refine All.mk ?_;intro _)|refine xT ?_|refine Ch.l ⟨rfl, rfl⟩ ?_|fail)
 rename_i b3
 refine xW (hva) ?_
 rintro _ _ ⟨rfl, rfl⟩
 repeat' (first|refine Sp.h ?_|refine Lk.r rfl ?_|refine Rf.mk rfl ?_|refine xA ?_|refine OpK.r rfl ?_|refine xT ?_|refine Ch.l ⟨rfl, rfl⟩ ?_|refine xD ?_|(apply Cl.p (hn);(focus ((repeat' (first|exact Lend.nil|apply Lend.keep|fail));done)))|(apply Cl.p (hh);(focus ((repeat' (first|exact Lend.nil|apply Lend.keep|fail));done))))
 refine xW (hmi) ?_
 rintro _ _ ⟨u, l, rfl, rfl, hl1, hl2⟩
 have hl0 : l.length = 0 := by rw [hl1.2 fun _ => h3];rfl
 repeat' (first|refine Sp.h ?_|refine Lk.r rfl ?_|refine Rf.mk rfl ?_|refine xB ?_|refine OpK.r rfl ?_|(refine All.mk ?_;intro _)|refine xU ?_|refine xT ?_|refine Ch.l ⟨rfl, rfl⟩ ?_|refine Ch.r ?_|(apply Fk.r;focus repeat' first|infer_instance|constructor)|refine Rf.mk ⟨rfl, rfl, rfl⟩ ?_|refine xD ?_|fail)
 rename_i x q
 refine CA.loop (fun i : Nat => ⟨[(0, pm s), (3, pm b3), (5, pm x), (52, .ow q), (53, it 5), (54, it i)], [stoR s m b v w, arrR v 37 13 evl evC, blkR b3 37 (evC e), stpR x s e (wI m w e i), arrR q 176 1 (fnL x) id]⟩)
  (fun i => i ≤ 5 ∧ (2 ≤ i → ¬ LateE evl e) ∧ (3 ≤ i → ¬ (e.kind = 0 ∧ ¬ insS (addE m w.state e))) ∧ (4 ≤ i → (applyF m w.merged e).1 = 0)) (fun i => 5 - i) 0 xE ⟨by omega, fun h => by omega, fun h => by omega, fun h => by omega⟩ ?_
 rintro i ⟨hi, i2, i3, i4⟩
 match i, hi with
 | 0, _ =>
  have hq : (fnL x)[0]? = some [AV.fb 90 [pm x]] := rfl
  have hc := count_a x s e w hrep.1 hrep.2 hcl
  repeat' (first|refine Sp.h ?_|refine Lk.r rfl ?_|refine Rf.mk rfl ?_|refine xA ?_|refine xU ?_|refine xI ?_|refine xJ ?_|fail)
  refine xW (hc) ?_
  rintro _ _ ⟨rfl, rfl⟩
  repeat' (first|refine Sp.h ?_|refine Lk.r rfl ?_|refine Rf.mk rfl ?_|refine xA ?_|refine xO ?_|fail)
  exact PA.lp 1 xE ⟨⟨by omega, fun h => by omega, fun h => by omega, fun h => by omega⟩, by omega⟩
 | 1, _ =>
  have hq : (fnL x)[1]? = some [AV.fb 91 [pm x]] := rfl
  have hc := order_a x s m b v evl w e (wI m w e 1) (by omega)
  repeat' (first|refine Sp.h ?_|refine Lk.r rfl ?_|refine Rf.mk rfl ?_|refine xA ?_|refine xU ?_|refine xI ?_|refine xJ ?_|fail)
  refine xW (hc) ?_
  rintro _ _ (⟨hL, rfl, rfl⟩|⟨hL, rfl, rfl⟩)
  ·have hF : deliverF m evl w e = (2, w) := by rw [deliverF, if_neg (fun h => h h1), if_neg h2, if_neg (fun h => h h3), if_pos hL]
   rw [evsD, hF]
   repeat' (first|refine Sp.h ?_|refine Lk.r rfl ?_|refine Rf.mk rfl ?_|refine xB ?_|refine xN ?_|fail)
   exact ⟨_, _, .one (.same (.z)), rfl, v, rfl⟩
  ·repeat' (first|refine Sp.h ?_|refine Lk.r rfl ?_|refine Rf.mk rfl ?_|refine xA ?_|refine xO ?_|fail)
   exact PA.lp 2 xE ⟨⟨by omega, fun _ => hL, fun h => by omega, fun h => by omega⟩, by omega⟩
 | 2, _ =>
  have hq : (fnL x)[2]? = some [AV.fb 92 [pm x]] := rfl
  have hL := i2 (by omega)
  have hc := sadd_a x s m b v w e (wI m w e 2) hm hw.st (fun hk => ⟨act_rng h1.1 hk, h1.2.2 hk⟩)
  repeat' (first|refine Sp.h ?_|refine Lk.r rfl ?_|refine Rf.mk rfl ?_|refine xA ?_|refine xU ?_|refine xI ?_|refine xJ ?_|fail)
  refine xW (hc) ?_
  rintro _ _ (⟨hk, hL2, rfl, rfl⟩|⟨hL2, rfl, rfl⟩)
  ·have hF : deliverF m evl w e = (2, w) := by rw [deliverF, if_neg (fun h => h h1), if_neg h2, if_neg (fun h => h h3), if_neg hL, if_pos ⟨hk, hL2⟩]
   rw [evsD, hF]
   repeat' (first|refine Sp.h ?_|refine Lk.r rfl ?_|refine Rf.mk rfl ?_|refine xB ?_|refine xN ?_|fail)
   exact ⟨_, _, .one (.same (.z)), rfl, v, rfl⟩
  ·repeat' (first|refine Sp.h ?_|refine Lk.r rfl ?_|refine Rf.mk rfl ?_|refine xA ?_|refine xO ?_|fail)
   exact PA.lp 3 xE ⟨⟨by omega, fun _ => hL, fun _ => hL2, fun h => by omega⟩, by omega⟩
 | 3, _ =>
  have hq : (fnL x)[3]? = some [AV.fb 93 [pm x]] := rfl
  have hL := i2 (by omega)
  have hL2 := i3 (by omega)
  have hc := update_a x s m b v w e (wI m w e 3) hm
  by_cases hA : (applyF m w.merged e).1 = 0
  ·repeat' (first|refine Sp.h ?_|refine Lk.r rfl ?_|refine Rf.mk rfl ?_|refine xA ?_|refine xU ?_|refine xI ?_|refine xJ ?_|fail)
   refine xW (hc) ?_
   rintro _ _ ⟨rfl, rfl⟩
   simp only [wI]
   repeat' (first|refine Sp.h ?_|refine Lk.r rfl ?_|refine Rf.mk rfl ?_|refine xA ?_|refine xO ?_|fail)
   exact PA.lp 4 xE ⟨⟨by omega, fun _ => hL, fun _ => hL2, fun _ => hA⟩, by omega⟩
  ·have hF : deliverF m evl w e = ((applyF m w.merged e).1, w) := by rw [deliverF, if_neg (fun h => h h1), if_neg h2, if_neg (fun h => h h3), if_neg hL, if_neg hL2, if_pos hA]
   rw [evsD, hF]
   repeat' (first|refine Sp.h ?_|refine Lk.r rfl ?_|refine Rf.mk rfl ?_|refine xA ?_|refine xU ?_|refine xI ?_|refine xJ ?_|fail)
   refine xW (hc) ?_
   rintro _ _ ⟨rfl, rfl⟩
   simp only [wI]
   rw [if_neg hA]
   repeat' (first|refine Sp.h ?_|refine Lk.r rfl ?_|refine Rf.mk rfl ?_|refine xB ?_|refine xN ?_|fail)
   exact ⟨_, _, .one (.same (.z)), rfl, v, rfl⟩
 | 4, _ =>
  have hq : (fnL x)[4]? = some [AV.fb 94 [pm x]] := rfl
  have hc := place_a x s e (wI m w e 4) hw.pls hw.pll
  repeat' (first|refine Sp.h ?_|refine Lk.r rfl ?_|refine Rf.mk rfl ?_|refine xA ?_|refine xU ?_|refine xI ?_|refine xJ ?_|fail)
  refine xW (hc) ?_
  rintro _ _ ⟨rfl, rfl⟩
  repeat' (first|refine Sp.h ?_|refine Lk.r rfl ?_|refine Rf.mk rfl ?_|refine xA ?_|refine xO ?_|fail)
  exact PA.lp 5 xE ⟨⟨by omega, fun _ => i2 (by omega), fun _ => i3 (by omega), fun _ => i4 (by omega)⟩, by omega⟩
 | 5, _ =>
  have hL := i2 (by omega)
  have hL2 := i3 (by omega)
  have hA := i4 (by omega)
  have hF : deliverF m evl w e = (0, wI m w e 5) := by rw [deliverF, if_neg (fun h => h h1), if_neg h2, if_neg (fun h => h h3), if_neg hL, if_neg hL2, if_neg (fun h => h hA)];rfl
  have hpl := h1.1.1.2.2
  have hce := cloneEs_p [e] (by simp) (fun d hd => by rw [List.mem_singleton.1 hd];omega)
  rw [evsD, hF, if_pos rfl]
  repeat' (first|refine Sp.h ?_|refine Lk.r rfl ?_|refine Rf.mk rfl ?_|refine xB ?_|refine OpK.r rfl ?_|(refine All.mk ?_;intro _)|refine xT ?_|refine Ch.l ⟨rfl, rfl⟩ ?_|refine Ch.r ?_|(apply SetAsk.r;focus repeat' constructor)|(apply Fk.r;focus repeat' first|infer_instance|constructor)|refine Rf.mk ⟨rfl, rfl, rfl⟩ ?_|refine xD ?_|fail)
  apply Cl.fx [evs [e]]
  focus (apply FX.sl;(focus repeat constructor);(focus exact Nat.le_of_ble_eq_true rfl);(focus exact FX.le (ALe.refl _) FX.nil);(focus exact FX.nil))
  repeat' (first|refine Sp.h ?_|refine Lk.r rfl ?_|refine Rf.mk rfl ?_|refine OpK.r rfl ?_|refine xP ?_|(refine All.mk ?_;intro _)|refine xU ?_|refine xT ?_|refine Ce.r ?_|refine xV ?_|refine xN ?_|refine Rf.mk ⟨rfl, rfl⟩ ?_|refine Mp.same ?_|(apply Cl.p (hce);(focus repeat' (first|exact Lend.nil|apply Lend.keep|fail))))
  exact ⟨_, _, .one (.same (.z)), rfl, _, rfl⟩
end Go.Proofs.YtmllihbhphnolaaGreat
namespace Go.CF
open Go
section
variable {Γ : Cx} {k : List KI} {e : EA} {o : List Res} {N : NA} {c : Cls} {d : Tmp} {ty : TypeId} {x y z : Operand} {t u : TypeId} {kk : IntKind} {i : Int}
theorem ALe.tup {l m : List AV} (r : RLe l m) : ALe (.tup l) (.tup m) := ⟨fun ⟨vs, h1, h2⟩ => ⟨vs, h1, r.rep h2⟩⟩
theorem ALe.agg {l m : List AV} (r : RLe l m) : ALe (.agg l) (.agg m) := ⟨fun ⟨vs, h1, h2⟩ => ⟨vs, h1, ⟨r.rep h2.t, h2.one⟩⟩⟩
end

/-! ### The library's sorts -/
section
open Go.Sort
open Go.Proofs in
end
end Go.CF
namespace Go.Proofs.YtmllihbhphnolaaGreat
open Go Go.CF
set_option maxRecDepth 20000
structure SzN (b : NowS) : Prop where
 c : b.clock.length ≤ 100000
 s : b.state.length ≤ 100000
 m : b.merged.length ≤ 100000
 k : ∀ g ∈ b.merged, g.marks.length ≤ 1000000
 p : b.places.length ≤ 100000
set_option maxHeartbeats 2000000 in
theorem cloneBase_a (b : NowS) (r s : AV) (h : SzN b) :
  CallA Tryz.prog 106 [.agg [ints b.clock, it b.time, ints b.state, mgs b.merged, r, s, ints b.places]] [] fun q own => ∃ v1 v2 v3 L v4, q = .agg [.ow v1, it b.time, .ow v2, .ow v3, nl0, nl0, .ow v4] ∧ L.map MgE.g = b.merged ∧
   own = [arrR v4 3 1 b.places intC, arrR v3 123 3 L mgeC, bunR (L.map mgeR), arrR v2 3 1 b.state intC, arrR v1 3 1 b.clock intC] := by
 have h1 := clone_o b.clock (by have := h.c;omega)
 have h2 := clone_o b.state (by have := h.s;omega)
 have h3 := cloneM_a b.merged (by have := h.m;omega) h.k
 have h4 := clone_o b.places (by have := h.p;omega)
 refine CallA.of pg ord106 Tryz.func106 rfl Tryz.ntmps106 Tryz.results106 rfl fun h0 G0 O0 => ?_
 repeat' (first|refine Sp.h ?_|refine Lk.r rfl ?_|refine Rf.mk rfl ?_|refine OpK.r rfl ?_|(refine All.mk ?_;intro _)|refine xT ?_|refine xN ?_|refine xD ?_|fail)
 (refine Cl.use (h1) (by repeat' (first|exact Lend.nil|apply Lend.keep|fail)) .nil rfl ?_;rintro _ _ ⟨_, rfl, rfl⟩)
 repeat' (first|refine Sp.h ?_|refine Lk.r rfl ?_|refine Rf.mk rfl ?_|refine OpK.r rfl ?_|fail)
 (refine Cl.use (h2) (by repeat' (first|exact Lend.nil|apply Lend.keep|fail)) .nil rfl ?_;rintro _ _ ⟨_, rfl, rfl⟩)
 repeat' (first|refine Sp.h ?_|refine Lk.r rfl ?_|refine Rf.mk rfl ?_|refine OpK.r rfl ?_|fail)
 refine xW (h3) ?_
 rintro _ _ ⟨v3, L, rfl, hL, rfl⟩
 repeat' (first|refine Sp.h ?_|refine Lk.r rfl ?_|refine Rf.mk rfl ?_|refine OpK.r rfl ?_|fail)
 (refine Cl.use (h4) (by repeat' (first|exact Lend.nil|apply Lend.keep|fail)) .nil rfl ?_;rintro _ _ ⟨_, rfl, rfl⟩)
 repeat' (first|refine Sp.h ?_|refine Lk.r rfl ?_|refine Rf.mk rfl ?_|refine OpK.r rfl ?_|refine xT ?_|(apply SetAsk.r;focus repeat' constructor)|(apply Fk.r;focus repeat' first|infer_instance|constructor)|refine xN ?_|fail)
 exact ⟨_, _, .one (.same (.z)), _, _, _, L, _, rfl, hL, rfl⟩
theorem cloneBase_p (b : NowS) (r s : AV) (h : SzN b) : CallP Tryz.prog 106 [.agg [ints b.clock, it b.time, ints b.state, mgs b.merged, r, s, ints b.places]] (basA b) := by
 refine CallA.fx (cloneBase_a b r s h) ?_
 rintro q o ⟨v1, v2, v3, L, v4, rfl, hL, rfl⟩
 have := h.c;have := h.s;have := h.m;have := h.p
 have hk : ∀ x ∈ L, x.marks.length ≤ 1000000 := fun x hx => h.k x.g (by rw [← hL];exact List.mem_map_of_mem hx)
 have hLl : L.length ≤ 1000000 := by have := congrArg List.length hL;simp at this;omega
 rw [show basA b = .agg [ints b.clock, it b.time, ints b.state, mgs (L.map MgE.g), nl0, nl0, ints b.places] by rw [hL]]
 refine .agg ?_ .nil
 refine FX.s1 (T := 3) (by repeat constructor) (by omega) (FX.k (FX.s1 (T := 3) (by repeat constructor) (by omega) ?_))
 refine out_fx2 (by repeat constructor) (by repeat constructor) hLl hk (FX.k (FX.k (FX.s1 (T := 3) (by repeat constructor) (by omega) .nil)))
set_option maxHeartbeats 2000000 in
theorem open_a (m : ModS) (b : NowS) (r s : AV) (h : SzN b) :
  CallA Tryz.prog 120 [mdl m, .agg [ints b.clock, it b.time, ints b.state, mgs b.merged, r, s, ints b.places]] [] fun q own => ∃ p v, q = pm p ∧ own = [stoR p m b v b, arrR v 37 13 ([] : List EvS) evC] := by
 have h1 := cloneBase_p b r s h
 have h2 := cloneBase_p b nl0 nl0 h
 refine CallA.own (K := fun q own => ∃ p, q = pm p ∧ own = [blkR p 165 [ints m.sorts, tbls m.tables, .sl 1 m.families strC, .sl 6 m.cons cnsC, .sl 3 m.ops opC, .sl 5 m.acts actC, .sl 3 m.hides updC, ints b.clock, it b.time, ints b.state, mgs b.merged, nl0, nl0, ints b.places, nl0, ints b.clock, it b.time, ints b.state, mgs b.merged, ints b.places]]) ?_ ?_
 ·refine CallA.of pg ord120 Tryz.func120 rfl Tryz.ntmps120 Tryz.results120 rfl fun h0 G0 O0 => ?_
  repeat' (first|refine Sp.h ?_|refine Lk.r rfl ?_|refine Rf.mk rfl ?_|(refine All.mk ?_;intro _)|refine xT ?_|refine Ch.l ⟨rfl, rfl⟩ ?_|(apply SetAsk.r;focus repeat' constructor)|(apply Fk.r;focus repeat' first|infer_instance|constructor)|refine xN ?_|(apply Cl.p (h1);(focus ((repeat' (first|exact Lend.nil|apply Lend.keep|apply Lend.agg|fail));done)))|(apply Cl.p (h2);(focus ((repeat' (first|exact Lend.nil|apply Lend.keep|apply Lend.agg|fail));done))))
  exact ⟨_, _, .one (.same (.z)), _, rfl, rfl⟩
 ·rintro _ _ ⟨p, rfl, rfl⟩
  refine ⟨[stoR p m b (.slice none 0 0) b, arrR (.slice none 0 0) 37 13 ([] : List EvS) evC], ?_, p, _, rfl, rfl⟩
  refine (OX.nil _ 37 13 evC).trans (OX.recell (.there .here) _ ?_)
  (repeat' (first|exact RLe.nil|(apply RLe.cons;(focus first|exact ALe.refl _|exact ALe.nilow|exact ALe.nil))))
set_option maxHeartbeats 2000000 in
theorem new35_a (m : ModS) (n : Nat) (ld : List Int) (hm : MOK m) (hn : 1 ≤ n ∧ n ≤ 5) (hl : ld.length = strF m) (hs : insS ld) :
  CallA Tryz.prog 77 [mdl m, it n, ints ld] [] fun q own => ∃ p v, q = .tup [pm p, it 0] ∧ own = [stoR p m ⟨List.replicate n 0, 0, ld, List.replicate (mrgF m).length mg0, []⟩ v ⟨List.replicate n 0, 0, ld, List.replicate (mrgF m).length mg0, []⟩, arrR v 37 13 ([] : List EvS) evC] := by
 have h1 := cells35_p m hm.lay
 have h2 := inside35_p ld
 rw [decide_eq_true hs] at h2
 have h3 : CallP Tryz.prog 32 [it n] (ints (List.replicate n 0)) := CallA.fz (T := 3) (by simp;omega) (by have := zero_ok (n : Int) (by omega);rwa [Int.toNat_natCast] at this)
 have h4 := new_p m hm.lay
 have := hm.str;have := hm.mrg
 have h5 := open_a m ⟨List.replicate n 0, 0, ld, List.replicate (mrgF m).length mg0, []⟩ nl0 nl0 ⟨by simp;omega, by simp only;omega, by simp;omega, fun g hg => by rw [(List.mem_replicate.1 hg).2];simp [mg0], by simp⟩
 have h6 : CallA Tryz.prog 120 [mdl m, .agg [ints (List.replicate n 0), it 0, ints ld, mgs (List.replicate (mrgF m).length mg0), nl0, nl0, nl0]] [] fun q own => ∃ p v, q = pm p ∧ own = [stoR p m ⟨List.replicate n 0, 0, ld, List.replicate (mrgF m).length mg0, []⟩ v ⟨List.replicate n 0, 0, ld, List.replicate (mrgF m).length mg0, []⟩, arrR v 37 13 ([] : List EvS) evC] := by
  refine CallA.args (RLe.cons (ALe.refl _) (RLe.cons (ALe.agg ?_) .nil)) h5
  (repeat' (first|exact RLe.nil|(apply RLe.cons;(focus first|exact ALe.refl _|exact ALe.nilow|exact ALe.nil))))
 refine CallA.of pg ord77 Tryz.func77 rfl Tryz.ntmps77 Tryz.results77 rfl fun h0 G0 O0 => ?_
 repeat' (first|refine Sp.h ?_|refine Lk.r rfl ?_|refine Rf.mk rfl ?_|refine xA ?_|refine xB ?_|refine OpK.r rfl ?_|(refine Im.mk ?_;intro _)|(refine All.mk ?_;intro _)|refine xT ?_|refine Ch.l ⟨rfl, rfl⟩ ?_|(apply Fk.r;focus repeat' first|infer_instance|constructor)|refine xD ?_|(apply Cl.p (h1);(focus ((repeat' (first|exact Lend.nil|apply Lend.keep|fail));done)))|(apply Cl.p (h2);(focus ((repeat' (first|exact Lend.nil|apply Lend.keep|fail));done)))|(apply Cl.p (h3);(focus ((repeat' (first|exact Lend.nil|apply Lend.keep|fail));done)))|(apply Cl.p (h4);(focus ((repeat' (first|exact Lend.nil|apply Lend.keep|fail));done))))
 refine xW (h6) ?_
 rintro _ _ ⟨p, v, rfl, rfl⟩
 repeat' (first|refine Sp.h ?_|refine Lk.r rfl ?_|refine OpK.r rfl ?_|refine xN ?_|fail)
 exact ⟨_, _, .tup (.same (.same (.z))), p, v, rfl, rfl⟩
end Go.Proofs.YtmllihbhphnolaaGreat
namespace Go.Proofs.YtmllihbhphnolaaGreat
open Go Go.CF
set_option maxRecDepth 20000
abbrev i1 : Int → List AV := fun x => [.val (.int .i64 x)]
def srtI (l : List Int) : List Int := l.mergeSort fun x y => decide (x ≤ y)
noncomputable def ddN {α : Type} (l : List α) : Nat → List α
 | 0 => []
 | i + 1 => @ite _ (0 < i ∧ l[i]? = l[i - 1]?) (Classical.propDecidable _) (ddN l i) (ddN l i ++ l[i]?.toList)
noncomputable def dd {α : Type} (l : List α) : List α := ddN l l.length
theorem ddN_eq {α : Type} {l : List α} {i : Nat} (h0 : 0 < i) (h : l[i]? = l[i - 1]?) : ddN l (i + 1) = ddN l i := by
 rw [ddN];exact @if_pos _ (Classical.propDecidable _) ⟨h0, h⟩ _ _ _
theorem ddN_ne {α : Type} {l : List α} {i : Nat} {x : α} (hx : l[i]? = some x) (h : 0 < i → l[i]? ≠ l[i - 1]?) : ddN l (i + 1) = ddN l i ++ [x] := by
 rw [ddN, hx]
 exact @if_neg _ (Classical.propDecidable _) (fun e => h e.1 (by rw [hx];exact e.2)) _ _ _
theorem ddN_len {α : Type} {l : List α} : ∀ i, (ddN l i).length ≤ i
 | 0 => Nat.le_refl _
 | i + 1 => by
  have := ddN_len (l := l) i
  rw [ddN]
  cases l[i]? <;> (split <;> simp <;> omega)
end Go.Proofs.YtmllihbhphnolaaGreat
namespace Go.Proofs.YtmllihbhphnolaaGreat
open Go Go.CF
set_option maxRecDepth 20000
noncomputable def srtD (l : List Int) : List Int := dd (srtI l)
theorem srtI_len (l : List Int) : (srtI l).length = l.length := by simp [srtI]
theorem srtD_len (l : List Int) : (srtD l).length ≤ l.length := by
 have := ddN_len (l := srtI l) (srtI l).length
 rw [srtI_len] at this
 rw [srtD, dd, srtI_len];exact this
def SI (l s : List Int) : Prop := s.Pairwise (· < ·) ∧ ∀ x, x ∈ s ↔ x ∈ l
theorem SI.uniq {l s t : List Int} (g1 : SI l s) (g2 : SI l t) : s = t := by
 have key : ∀ s t : List Int, s.Pairwise (· < ·) → t.Pairwise (· < ·) → (∀ x, x ∈ s ↔ x ∈ t) → s = t := by
  intro s
  induction s with
  | nil =>
   intro t _ _ h
   cases t with
   | nil => rfl
   | cons b t => exact absurd ((h b).2 (by simp)) (by simp)
  | cons a s ih =>
   intro t hs ht h
   cases t with
   | nil => exact absurd ((h a).1 (by simp)) (by simp)
   | cons b t =>
    obtain ⟨h1, h2⟩ := List.pairwise_cons.1 hs
    obtain ⟨h3, h4⟩ := List.pairwise_cons.1 ht
    have hab : a = b := by
     rcases List.mem_cons.1 ((h a).1 (by simp)) with e|e
     ·exact e
     ·rcases List.mem_cons.1 ((h b).2 (by simp)) with e2|e2
      ·exact e2.symm
      ·have := h1 b e2;have := h3 a e;omega
    subst hab
    rw [ih t h2 h4 fun x => ?_]
    have := h x
    simp only [List.mem_cons] at this
    constructor
    ·intro hx
     rcases this.1 (.inr hx) with e|e
     ·subst e;have := h1 _ hx;omega
     ·exact e
    ·intro hx
     rcases this.2 (.inr hx) with e|e
     ·subst e;have := h3 _ hx;omega
     ·exact e
 exact key _ _ g1.1 g2.1 fun x => (g1.2 x).trans (g2.2 x).symm
theorem srtI_sorted (l : List Int) : (srtI l).Pairwise (· ≤ ·) := by
 have := List.pairwise_mergeSort (le := fun x y : Int => decide (x ≤ y)) (fun a b c h1 h2 => by simp at *;omega) (fun a b => by simp;omega) l
 exact this.imp fun h => by simpa using h
theorem srtD_si (l : List Int) : SI l (srtD l) := by
 have hs := srtI_sorted l
 have hm : ∀ x, x ∈ srtI l ↔ x ∈ l := fun x => List.mem_mergeSort
 suffices key : ∀ i, i ≤ (srtI l).length → (ddN (srtI l) i).Pairwise (· < ·) ∧ (∀ x, x ∈ ddN (srtI l) i ↔ x ∈ (srtI l).take i) by
  obtain ⟨h1, h2⟩ := key _ (Nat.le_refl _)
  rw [List.take_length] at h2
  exact ⟨h1, fun x => (h2 x).trans (hm x)⟩
 intro i
 induction i with
 | zero => intro _;exact ⟨List.Pairwise.nil, fun x => by simp [ddN]⟩
 | succ i ih =>
  intro hi
  obtain ⟨h1, h2⟩ := ih (by omega)
  obtain ⟨x, hx⟩ := get_of (l := srtI l) (i := i) (by omega)
  have ht : (srtI l).take (i + 1) = (srtI l).take i ++ [x] := by rw [List.take_add_one, hx];rfl
  by_cases hc : 0 < i ∧ (srtI l)[i]? = (srtI l)[i - 1]?
  ·rw [ddN_eq hc.1 hc.2, ht]
   refine ⟨h1, fun y => (h2 y).trans ?_⟩
   have hxm : x ∈ (srtI l).take i := List.mem_of_getElem? (i := i - 1) (by rw [List.getElem?_take, if_pos (by omega), ← hc.2, hx])
   simp only [List.mem_append, List.mem_singleton]
   exact ⟨.inl, fun h => h.elim id fun e => e ▸ hxm⟩
  ·rw [ddN_ne hx (fun h0 e => hc ⟨h0, e⟩), ht]
   refine ⟨List.pairwise_append.2 ⟨h1, by simp, fun a ha b hb => ?_⟩, fun y => by simp [h2]⟩
   have hb : b = x := by simpa using hb
   subst hb
   have ha := (h2 a).1 ha
   obtain ⟨j, hj⟩ := List.getElem?_of_mem ha
   have hjl : j < i := by have := (List.getElem?_eq_some_iff.1 hj).1;simp at this;omega
   rw [List.getElem?_take, if_pos hjl] at hj
   have hle : ∀ (p q : Nat) (u v : Int), p ≤ q → (srtI l)[p]? = some u → (srtI l)[q]? = some v → u ≤ v := fun p q u v hpq hu hv => by
    by_cases he : p = q
    ·subst he;rw [hu] at hv;cases hv;omega
    ·obtain ⟨p1, rfl⟩ := List.getElem?_eq_some_iff.1 hu
     obtain ⟨q1, rfl⟩ := List.getElem?_eq_some_iff.1 hv
     exact List.pairwise_iff_getElem.1 hs p q p1 q1 (by omega)
   obtain ⟨z, hz⟩ := get_of (l := srtI l) (i := i - 1) (by omega)
   have h3 := hle j (i - 1) a z (by omega) hj hz
   have h4 := hle (i - 1) i z b (by omega) hz hx
   have h5 : b ≠ z := fun e => hc ⟨by omega, by rw [hx, hz, e]⟩
   omega
end Go.Proofs.YtmllihbhphnolaaGreat
namespace Go.Proofs.YtmllihbhphnolaaGreat
open Go Go.CF
set_option maxRecDepth 20000
theorem si_keep {l s : List Int} {x : Int} (h : SI l s) (hx : x ∈ s) : SI (l ++ [x]) s :=
 ⟨h.1, fun y => by
  rw [List.mem_append, List.mem_singleton, h.2]
  exact ⟨.inl, fun e => e.elim id fun e => e ▸ (h.2 x).1 hx⟩⟩
theorem si_ins {l s : List Int} {x : Int} {i : Nat} (h : SI l s) (h1 : ∀ y ∈ s.take i, y < x) (h2 : ∀ y ∈ s.drop i, x < y) : SI (l ++ [x]) (s.take i ++ x :: s.drop i) := by
 have hp := h.1
 rw [← List.take_append_drop i s] at hp
 obtain ⟨p1, p2, p3⟩ := List.pairwise_append.1 hp
 refine ⟨List.pairwise_append.2 ⟨p1, List.pairwise_cons.2 ⟨h2, p2⟩, fun a ha b hb => ?_⟩, fun y => ?_⟩
 ·rcases List.mem_cons.1 hb with rfl|hb
  ·exact h1 a ha
  ·exact p3 a ha b hb
 ·have : y ∈ s ↔ y ∈ s.take i ∨ y ∈ s.drop i := by rw [← List.mem_append, List.take_append_drop]
  rw [List.mem_append, List.mem_cons, List.mem_append, List.mem_singleton, ← h.2, this]
  constructor
  ·rintro (h|h|h)
   ·exact .inl (.inl h)
   ·exact .inr h
   ·exact .inl (.inr h)
  ·rintro ((h|h)|h)
   ·exact .inl h
   ·exact .inr (.inr h)
   ·exact .inr (.inl h)
set_option maxHeartbeats 2000000 in
theorem sorted_p (l : List Int) (hl : l.length ≤ 100000) : CallP Tryz.prog 182 [ints l] (ints (srtD l)) := by
 have hln := srtD_len l
 refine CallA.fz (T := 3) (by omega) ?_
 refine CallA.of pg ord182 Tryz.func182 rfl Tryz.ntmps182 Tryz.results182 rfl fun h0 G0 O0 => ?_
 repeat' (first|refine Sp.h ?_|refine Lk.r rfl ?_|refine Rf.mk rfl ?_|(refine All.mk ?_;intro _)|(apply Fk.r;focus repeat' first|infer_instance|constructor)|refine Rf.mk ⟨rfl, rfl, rfl⟩ ?_|fail)
 rename_i v
 apply CA.retype (m := ([] : List Int)) (g := i1)
 focus (repeat constructor)
 focus rfl
 refine CA.loop (fun x : Nat × Value × List Int => ⟨[(0, ints l), (3, .ow x.2.1), (4, it x.1)], [arrR x.2.1 3 1 x.2.2 i1]⟩) (fun x => x.1 ≤ l.length ∧ x.2.2.length ≤ x.1 ∧ SI (l.take x.1) x.2.2) (fun x => l.length - x.1) (0, v, []) xE ⟨Nat.zero_le _, by simp, List.Pairwise.nil, by simp⟩ ?_
 rintro ⟨i, w, s⟩ ⟨hi, hsl, hs⟩
 simp only at hi hsl hs
 simp only
 by_cases hin : i < l.length
 ·obtain ⟨x, hx⟩ := get_of hin
  have hsu : l.take (i + 1) = l.take i ++ [x] := by rw [List.take_add_one, hx];rfl
  repeat' (first|refine Sp.h ?_|refine Lk.r rfl ?_|refine Rf.mk rfl ?_|refine xA ?_|(refine Im.mk ?_;intro _)|fail)
  refine CA.loop (fun j : Nat => ⟨[(0, ints l), (3, .ow w), (4, it i), (5, it j)], [arrR w 3 1 s i1]⟩) (fun j => j ≤ s.length ∧ ∀ y ∈ s.take j, y < x) (fun j => s.length - j) 0 xE ⟨Nat.zero_le _, by simp⟩ ?_
  rintro j ⟨hj, hlt⟩
  by_cases hjn : j < s.length
  ·obtain ⟨y, hy⟩ := get_of hjn
   by_cases hyx : y < x
   ·repeat' (first|refine Sp.h ?_|refine Lk.r rfl ?_|refine Rf.mk rfl ?_|refine xA ?_|refine OpK.r rfl ?_|refine xU ?_|refine xI ?_|refine xJ ?_|refine xD ?_|refine xO ?_|fail)
    exact PA.lp (j + 1) xE ⟨⟨hjn, all_succ hy hlt hyx⟩, by omega⟩
   ·by_cases hye : y = x
    ·subst hye
     repeat' (first|refine Sp.h ?_|refine Lk.r rfl ?_|refine Rf.mk rfl ?_|refine xA ?_|refine xB ?_|refine OpK.r rfl ?_|refine xU ?_|refine xI ?_|refine xJ ?_|refine xD ?_|refine xO ?_|fail)
     all_goals exact PA.lp (i + 1, w, s) xE ⟨⟨hin, by simp only;omega, by simp only;rw [hsu];exact si_keep hs (List.mem_of_getElem? hy)⟩, by simp only;omega⟩
    ·have hgt : ∀ z ∈ s.drop j, x < z := fun z hz => by
      obtain ⟨q, hq⟩ := List.getElem?_of_mem hz
      rw [List.getElem?_drop] at hq
      by_cases hq0 : q = 0
      ·subst hq0;rw [Nat.add_zero, hy] at hq;cases hq;omega
      ·obtain ⟨p1, e1⟩ := List.getElem?_eq_some_iff.1 hq
       obtain ⟨p2, e2⟩ := List.getElem?_eq_some_iff.1 hy
       have := List.pairwise_iff_getElem.1 hs.1 j (j + q) p2 p1 (by omega)
       omega
     have hsi := si_ins hs hlt hgt
     have he : s.take (j - 0) ++ [x] ++ ([] ++ (s.drop j).take (s.length - j)) = s.take j ++ x :: s.drop j := by
      rw [List.take_of_length_le (l := s.drop j) (by simp)];simp
     repeat' (first|refine Sp.h ?_|refine Lk.r rfl ?_|refine Rf.mk rfl ?_|refine xA ?_|refine xB ?_|refine OpK.r rfl ?_|refine xP ?_|(refine All.mk ?_;intro _)|refine xU ?_|refine xI ?_|refine xJ ?_|refine Ce.l rfl ?_|refine Ce.r ?_|(apply Fk.r;focus repeat' first|infer_instance|constructor)|refine Rf.mk ⟨rfl, rfl⟩ ?_|refine Rf.mk ⟨rfl, rfl, rfl⟩ ?_|(apply Jx.r;(focus exact rfl);(focus first|omega|(simp;done)|(simp;omega)))|refine Mp.same ?_|(apply Mp.lit;(focus repeat (first|exact MpL.nil|(apply MpL.cons;(focus rfl))|(apply MpL.inv;(focus repeat constructor);(focus infer_instance)))))|refine xD ?_|refine xO ?_|fail)
     all_goals rw [he]
     all_goals exact PA.lp (i + 1, _, s.take j ++ x :: s.drop j) xE ⟨⟨hin, by simp only [List.length_append, List.length_cons, List.length_take, List.length_drop];omega, by simp only;rw [hsu];exact hsi⟩, by simp only;omega⟩
  ·have hje : j = s.length := by omega
   subst hje
   rw [List.take_length] at hlt
   have hsi := si_ins (i := s.length) hs (by rw [List.take_length];exact hlt) (by rw [List.drop_length];simp)
   rw [List.take_length, List.drop_length] at hsi
   have he : s.take (s.length - 0) ++ [x] ++ ([] ++ (s.drop s.length).take (s.length - s.length)) = s ++ [x] := by simp
   repeat' (first|refine Sp.h ?_|refine Lk.r rfl ?_|refine Rf.mk rfl ?_|refine xB ?_|refine OpK.r rfl ?_|refine xP ?_|(refine All.mk ?_;intro _)|refine xU ?_|refine xI ?_|refine Ce.l rfl ?_|refine Ce.r ?_|(apply Fk.r;focus repeat' first|infer_instance|constructor)|refine Rf.mk ⟨rfl, rfl⟩ ?_|refine Rf.mk ⟨rfl, rfl, rfl⟩ ?_|(apply Jx.r;(focus exact rfl);(focus first|omega|(simp;done)|(simp;omega)))|refine Mp.same ?_|(apply Mp.lit;(focus repeat (first|exact MpL.nil|(apply MpL.cons;(focus rfl))|(apply MpL.inv;(focus repeat constructor);(focus infer_instance)))))|refine xD ?_|refine xO ?_|fail)
   all_goals rw [he]
   all_goals exact PA.lp (i + 1, _, s ++ [x]) xE ⟨⟨hin, by simp only [List.length_append, List.length_cons, List.length_nil];omega, by simp only;rw [hsu];exact hsi⟩, by simp only;omega⟩
 ·have hie : i = l.length := by omega
  subst hie
  rw [List.take_length] at hs
  have he : s = srtD l := hs.uniq (srtD_si l)
  subst he
  repeat' (first|refine Sp.h ?_|refine Lk.r rfl ?_|refine Rf.mk rfl ?_|refine xB ?_|(refine Im.mk ?_;intro _)|refine xN ?_|fail)
  exact ⟨_, _, .one (.same (.z)), _, rfl, rfl⟩
end Go.Proofs.YtmllihbhphnolaaGreat
namespace Go.Proofs.YtmllihbhphnolaaGreat
open Go Go.CF
set_option maxRecDepth 20000
theorem set_same {α : Type} {D : List α} {i : Nat} {x : α} (hx : D[i]? = some x) : D.set i x = D := by
 apply List.ext_getElem?
 intro j
 have hl := (List.getElem?_eq_some_iff.1 hx).1
 rw [List.getElem?_set]
 split
 ·rename_i hj;subst hj;first|rw [if_pos hl, hx] | rw [hx]
 ·rfl
end Go.Proofs.YtmllihbhphnolaaGreat
namespace Go.Proofs.YtmllihbhphnolaaGreat
open Go Go.CF
set_option maxRecDepth 20000
theorem fgK_len (c : List Int) (l : List MkS) : (fgK c l).length ≤ l.length := List.length_filter_le _ _
theorem fgK_succ {c : List Int} {l : List MkS} {i : Nat} {x : MkS} (hx : l[i]? = some x) : fgK c (l.take (i + 1)) = fgK c (l.take i) ++ if HasC c x.rep x.num then [] else [x] := by
 rw [List.take_add_one, hx, fgK, List.filter_append]
 by_cases h : HasC c x.rep x.num
 ·rw [if_pos h];simp [fgK, h]
 ·rw [if_neg h];simp [fgK, h]
theorem unseen_p (l : List MkS) (c : List Int) (hl : l.length ≤ 100000) : CallP Tryz.prog 278 [mks l, ints c] (mks (fgK c l)) := by
 have hln := fgK_len c l
 refine CallA.fz (T := 125) (by omega) ?_
 refine CallA.of pg ord278 Tryz.func278 rfl Tryz.ntmps278 Tryz.results278 rfl fun h0 G0 O0 => ?_
 repeat' (first|refine Sp.h ?_|refine Lk.r rfl ?_|refine Rf.mk rfl ?_|(refine All.mk ?_;intro _)|(apply Fk.r;focus repeat' first|infer_instance|constructor)|refine Rf.mk ⟨rfl, rfl, rfl⟩ ?_|fail)
 rename_i v
 apply CA.retype (m := ([] : List MkS)) (g := mkC)
 focus (repeat constructor)
 focus rfl
 refine CA.loop (fun x : Nat × Value => ⟨[(0, mks l), (1, ints c), (5, .ow x.2), (6, it x.1)], [arrR x.2 125 4 (fgK c (l.take x.1)) mkC]⟩) (fun x => x.1 ≤ l.length) (fun x => l.length - x.1) (0, v) xE (Nat.zero_le _) ?_
 rintro ⟨i, w⟩ hi
 simp only at hi
 simp only
 by_cases hin : i < l.length
 ·obtain ⟨x, hx⟩ := get_of hin
  have hsu := fgK_succ (c := c) hx
  have hll := fgK_len c (l.take i)
  rw [List.length_take] at hll
  by_cases hh : HasC c x.rep x.num
  ·rw [if_pos hh, List.append_nil] at hsu
   repeat' (first|refine Sp.h ?_|refine Lk.r rfl ?_|refine Rf.mk rfl ?_|refine xA ?_|refine OpK.r rfl ?_|(refine Im.mk ?_;intro _)|refine xI ?_|(apply Fk.r;focus repeat' first|infer_instance|constructor)|refine xD ?_|refine xO ?_|(apply Cl.p (hasR_p _ _ _);(focus repeat' (first|exact Lend.nil|apply Lend.keep|fail))))
   all_goals rw [← hsu]
   all_goals exact PA.lp (i + 1, w) xE ⟨hin, by simp only;omega⟩
  ·rw [if_neg hh] at hsu
   repeat' (first|refine Sp.h ?_|refine Lk.r rfl ?_|refine Rf.mk rfl ?_|refine xA ?_|refine xB ?_|refine OpK.r rfl ?_|refine xP ?_|(refine Im.mk ?_;intro _)|(refine All.mk ?_;intro _)|refine xU ?_|refine xI ?_|refine Ce.r ?_|refine Ch.l ⟨rfl, rfl⟩ ?_|(apply Fk.r;focus repeat' first|infer_instance|constructor)|refine Rf.mk ⟨rfl, rfl⟩ ?_|refine Rf.mk ⟨rfl, rfl, rfl⟩ ?_|(apply Mp.lit;(focus repeat (first|exact MpL.nil|(apply MpL.cons;(focus rfl))|(apply MpL.inv;(focus repeat constructor);(focus infer_instance)))))|refine xD ?_|refine xO ?_|(apply Cl.p (hasR_p _ _ _);(focus repeat' (first|exact Lend.nil|apply Lend.keep|fail))))
   all_goals rw [← hsu]
   all_goals exact PA.lp (i + 1, _) xE ⟨hin, by simp only;omega⟩
 ·have hie : i = l.length := by omega
  subst hie
  rw [List.take_length]
  repeat' (first|refine Sp.h ?_|refine Lk.r rfl ?_|refine Rf.mk rfl ?_|refine xB ?_|(refine Im.mk ?_;intro _)|refine xN ?_|fail)
  exact ⟨_, _, .one (.same (.z)), _, rfl, rfl⟩
theorem new34_p (m : ModS) (hm : LayOK m.sorts m.tables) : CallP Tryz.prog 36 [mdl m] (mgs (List.replicate (mrgF m).length mg0)) := by
 have hc := merged32_p m hm
 have hle := mrgF_le hm
 refine CallA.conv (a := .sl 3 (List.replicate (mrgF m).length ()) fun _ => [bl false, bl false, .val (.slice none 0 0)]) (ALe.sl (by simp) fun i x y _ hy => ?_) (CallA.fz (T := 123) (by simp;omega) ?_)
 ·have : y = mg0 := (List.mem_replicate.1 (List.mem_of_getElem? hy)).2
  subst this
  exact .cons (ALe.refl _) (.cons (ALe.refl _) (.cons ALe.nil .nil))
 ·refine CallA.of pg ord36 Tryz.func36 rfl Tryz.ntmps36 Tryz.results36 rfl fun h0 G0 O0 => ?_
  repeat' (first|refine Sp.h ?_|refine Lk.r rfl ?_|refine Rf.mk rfl ?_|(refine Im.mk ?_;intro _)|(refine All.mk ?_;intro _)|refine xT ?_|refine Ch.l ⟨rfl, rfl⟩ ?_|refine xN ?_|refine Rf.mk ⟨rfl, rfl, rfl⟩ ?_|(apply Jx.r;(focus exact rfl);(focus first|omega|(simp;done)|(simp;omega)))|(apply Cl.p (hc);(focus repeat' (first|exact Lend.nil|apply Lend.keep|fail))))
  refine CF.MkS.r (fun _ : Unit => [bl false, bl false, .val (.slice none 0 0)]) () rfl ?_
  repeat' (first|refine Sp.h ?_|refine Lk.r rfl ?_|(refine All.mk ?_;intro _)|refine xN ?_|fail)
  exact ⟨_, _, .one (.same (.z)), _, rfl, rfl⟩
end Go.Proofs.YtmllihbhphnolaaGreat
namespace Go.Proofs.YtmllihbhphnolaaGreat
open Go Go.CF
set_option maxRecDepth 20000
def joinC (a b : List Int) : List Int := zipC max a b
end Go.Proofs.YtmllihbhphnolaaGreat
namespace Go.Proofs.YtmllihbhphnolaaGreat
open Go Go.CF
set_option maxRecDepth 20000
section
variable (s : Nat) (m : ModS) (b : NowS) (v : Value) (w : NowS)
theorem sclock_a (h : w.clock.length ≤ 100000) : CallA Tryz.prog 16 [pm s] [stoR s m b v w] fun r own => ∃ u, r = .ow u ∧ own = [arrR u 3 1 w.clock intC, stoR s m b v w] := by
 have h1 := clone_o w.clock (by omega)
 refine CallA.of pg ord16 Tryz.func16 rfl Tryz.ntmps16 Tryz.results16 rfl fun h0 G0 O0 => ?_
 repeat' (first|refine Sp.h ?_|refine Lk.r rfl ?_|refine Rf.mk rfl ?_|refine xT ?_|fail)
 (refine Cl.use (h1) (by repeat' (first|exact Lend.nil|apply Lend.keep|fail)) .nil rfl ?_;rintro _ _ ⟨_, rfl, rfl⟩)
 repeat' (first|refine Sp.h ?_|refine Lk.r rfl ?_|refine xN ?_|fail)
 exact ⟨_, _, .one (.same (.z)), _, rfl, rfl⟩
theorem sclock_p (h : w.clock.length ≤ 100000) : CallA Tryz.prog 16 [pm s] [stoR s m b v w] fun r own => r = ints w.clock ∧ own = [stoR s m b v w] :=
 CallA.fxr (sclock_a s m b v w h) (by rintro _ _ ⟨u, rfl, rfl⟩;exact ⟨_, _, FX.s1 .here (by omega) .nil, rfl, rfl⟩)
theorem sstate_a (h : w.state.length ≤ 100000) : CallA Tryz.prog 52 [pm s] [stoR s m b v w] fun r own => ∃ u, r = .ow u ∧ own = [arrR u 3 1 w.state intC, stoR s m b v w] := by
 have h1 := clone_o w.state (by omega)
 refine CallA.of pg ord52 Tryz.func52 rfl Tryz.ntmps52 Tryz.results52 rfl fun h0 G0 O0 => ?_
 repeat' (first|refine Sp.h ?_|refine Lk.r rfl ?_|refine Rf.mk rfl ?_|refine xT ?_|fail)
 (refine Cl.use (h1) (by repeat' (first|exact Lend.nil|apply Lend.keep|fail)) .nil rfl ?_;rintro _ _ ⟨_, rfl, rfl⟩)
 repeat' (first|refine Sp.h ?_|refine Lk.r rfl ?_|refine xN ?_|fail)
 exact ⟨_, _, .one (.same (.z)), _, rfl, rfl⟩
theorem sstate_p (h : w.state.length ≤ 100000) : CallA Tryz.prog 52 [pm s] [stoR s m b v w] fun r own => r = ints w.state ∧ own = [stoR s m b v w] :=
 CallA.fxr (sstate_a s m b v w h) (by rintro _ _ ⟨u, rfl, rfl⟩;exact ⟨_, _, FX.s1 .here (by omega) .nil, rfl, rfl⟩)
theorem cloneEsOwn_a (l : List EvS) (hl : l.length ≤ 1000000) (hm : ∀ e ∈ l, e.past.length ≤ 1000000) {Γ : Cx} (hP : Γ.P = Tryz.prog) {c : Cls} {o : List Res} {u : Value} {M : AV → List Res → Prop} {rest : List Res} (tk : Take o (arrR u 37 13 l evC) rest) (hm2 : ∀ v L, L.map EvE.e = l → M (.ow v) (outE v L ++ o)) : Cl Γ c 95 [.ow u] o M := by
 refine Cl.lendO (K := fun r own => ∃ v L, r = .ow v ∧ L.map EvE.e = l ∧ own = outE v L) (by rw [hP];exact cloneEs_a l hl hm) (Lend.lend tk (by omega) .nil) ?_ ?_
 ·rintro _ _ ⟨v, L, rfl, _, rfl⟩
  refine ⟨FlatV.ow _, fun R hR => ?_⟩
  rcases List.mem_cons.1 hR with rfl|hR
  ·exact FlatR.arr fun x _ => .cons (.val _) (.cons (.val _) (.cons (.val _) (.cons (.ow _) (.cons (.val _) (.cons (.val _) (.cons (.val _) (.cons (.val _) (.cons (.val _) (.cons (.val _) (.cons (.val _) (.cons (.val _) (.cons (.val _) .nil))))))))))))
  ·rw [List.mem_singleton.1 hR]
   refine FlatR.bun fun R hR => ?_
   obtain ⟨x, _, rfl⟩ := List.mem_map.1 hR
   exact FlatR.arr fun y _ => .cons (.val _) .nil
 ·rintro _ _ ⟨v, L, rfl, hL, rfl⟩
  exact hm2 v L hL
theorem sevents_a (l : List EvS) (hl : l.length ≤ 1000000) (hm : ∀ e ∈ l, e.past.length ≤ 1000000) : CallA Tryz.prog 63 [pm s] [stoR s m b v w, arrR v 37 13 l evC] fun r own => ∃ u L, r = .ow u ∧ L.map EvE.e = l ∧ own = outE u L ++ [stoR s m b v w, arrR v 37 13 l evC] := by
 refine CallA.of pg ord63 Tryz.func63 rfl Tryz.ntmps63 Tryz.results63 rfl fun h0 G0 O0 => ?_
 repeat' (first|refine Sp.h ?_|refine Lk.r rfl ?_|refine Rf.mk rfl ?_|refine xT ?_|fail)
 refine cloneEsOwn_a l hl hm rfl (by repeat constructor) fun u L hL => ?_
 repeat' (first|refine Sp.h ?_|refine Lk.r rfl ?_|refine xN ?_|fail)
 exact ⟨_, _, .one (.same (.z)), _, L, rfl, hL, rfl⟩
theorem sevents_p (l : List EvS) (hl : l.length ≤ 1000000) (hm : ∀ e ∈ l, e.past.length ≤ 1000000) : CallA Tryz.prog 63 [pm s] [stoR s m b v w, arrR v 37 13 l evC] fun r own => r = evs l ∧ own = [stoR s m b v w, arrR v 37 13 l evC] :=
 CallA.fxr (sevents_a s m b v w l hl hm) (by
  rintro _ _ ⟨u, L, rfl, hL, rfl⟩
  refine ⟨evs (L.map EvE.e), _, outE_fx (by have := congrArg List.length hL;simp at this;omega) (fun x hx => hm x.e (by rw [← hL];exact List.mem_map_of_mem hx)) .nil, by rw [hL], rfl⟩)
end
end Go.Proofs.YtmllihbhphnolaaGreat
namespace Go.Proofs.YtmllihbhphnolaaGreat
open Go Go.CF
set_option maxRecDepth 20000
def cmpE (a b : EvS) : Int := orI [cmpI a.time b.time, cmpI a.rep b.rep, cmpI a.num b.num]
def LtE (a b : EvS) : Prop := a.time < b.time ∨ a.time = b.time ∧ (a.rep < b.rep ∨ a.rep = b.rep ∧ a.num < b.num)
noncomputable instance (a b : EvS) : Decidable (LtE a b) := Classical.propDecidable _
theorem cmpE_neg {a b : EvS} : cmpE a b < 0 ↔ LtE a b := cmpK_neg (a := ⟨a.rep, a.num, a.time, 0⟩) (b := ⟨b.rep, b.num, b.time, 0⟩)
theorem order1_p (a b : EvS) : CallP Tryz.prog 144 [evA' a, evA' b] (it (cmpE a b)) := by
 refine CallA.of pg ord144 Tryz.func144 rfl Tryz.ntmps144 Tryz.results144 rfl fun h0 G0 O0 => ?_
 repeat' (first|refine Sp.h ?_|refine Lk.r rfl ?_|refine Rf.mk rfl ?_|refine OpK.r rfl ?_|(refine All.mk ?_;intro _)|refine xT ?_|(apply Fk.r;focus repeat' first|infer_instance|constructor)|refine Rf.mk ⟨rfl, rfl, rfl⟩ ?_|refine xD ?_|(apply Cl.p (compareI_p _ _);(focus repeat' (first|exact Lend.nil|apply Lend.keep|fail))))
 have h := orI_p [cmpI a.time b.time, cmpI a.rep b.rep, cmpI a.num b.num]
 (apply Cl.lend (h);(focus repeat' (first|exact Lend.nil|(apply Lend.lendm;(focus repeat constructor);(focus rfl);(focus first|omega|decide|(simp;omega)|exact Nat.le_of_ble_eq_true rfl))|fail)))
 repeat' (first|refine Sp.h ?_|refine Lk.r rfl ?_|refine OpK.r rfl ?_|refine xN ?_|fail)
 exact Fin.p rfl rfl
abbrev SrtE (l : List EvS) : Prop := l.Pairwise fun a b => ¬ LtE b a
abbrev eR (v : Value) (L : List EvS) : Res := arrR v 37 13 L evC
theorem at_len {α : Type} {p : List α} {x : α} {q : List α} {i : Nat} (h : i = p.length) : (p ++ x :: q)[i]? = some x := by
 rw [h, List.getElem?_append_right (Nat.le_refl _), Nat.sub_self];rfl
theorem set_len {α : Type} {p : List α} {x y : α} {q : List α} {i : Nat} (h : i = p.length) : (p ++ x :: q).set i y = p ++ y :: q := by
 rw [h, List.set_append_right _ _ (Nat.le_refl _), Nat.sub_self];rfl
theorem swap_len {α : Type} {p : List α} {x y : α} {q : List α} {i : Nat} (h : i = p.length) : ((p ++ x :: y :: q).set i y).set (i + 1) x = p ++ y :: x :: q := by
 rw [set_len h]
 have : p ++ y :: y :: q = (p ++ [y]) ++ y :: q := by simp
 rw [this, set_len (by simp [h])]
 simp
theorem swap_len' {α : Type} {p : List α} {x y : α} {q : List α} {i : Nat} (h : i = p.length) : ((p ++ x :: y :: q).set (i + 1) x).set i y = p ++ y :: x :: q := by
 have : p ++ x :: y :: q = (p ++ [x]) ++ y :: q := by simp
 rw [this, set_len (by simp [h])]
 have : p ++ [x] ++ x :: q = p ++ x :: x :: q := by simp
 rw [this, set_len h]
theorem ne_snoc {α : Type} {l : List α} (h : l ≠ []) : ∃ m y, l = m ++ [y] := ⟨l.dropLast, l.getLast h, (List.dropLast_concat_getLast h).symm⟩
theorem srt_ins {S1 S2 : List EvS} {x : EvS} (h : SrtE (S1 ++ S2)) (h2 : ∀ s ∈ S2, LtE x s) (h1 : ∀ m y, S1 = m ++ [y] → ¬ LtE x y) : SrtE (S1 ++ x :: S2) := by
 obtain ⟨a1, a2, a3⟩ := List.pairwise_append.1 h
 refine List.pairwise_append.2 ⟨a1, List.pairwise_cons.2 ⟨fun s hs h9 => ?_, a2⟩, fun s hs t ht => ?_⟩
 ·have := h2 s hs;unfold LtE at *;omega
 ·rcases List.mem_cons.1 ht with e|ht
  ·subst e
   by_cases hn : S1 = []
   ·subst hn;cases hs
   ·obtain ⟨m, y, rfl⟩ := ne_snoc hn
    have hy := h1 m y rfl
    rcases List.mem_append.1 hs with hs|hs
    ·have := (List.pairwise_append.1 a1).2.2 s hs y (by simp)
     unfold LtE at *;omega
    ·rw [List.mem_singleton.1 hs];exact hy
  ·exact a3 s hs t ht
set_option maxHeartbeats 2000000 in
theorem insSort_a (v : Value) (L pre A post : List EvS) (a b : Int) (hL : L = pre ++ A ++ post) (ha : a = pre.length) (hb : b = pre.length + A.length) (hl : L.length ≤ 100000) :
  CallA Tryz.prog 266 [.ow v, it a, it b, .fn 144 []] [eR v L] fun r o => ∃ L' S, r = .tup [] ∧ o = [eR v L'] ∧ L' = pre ++ S ++ post ∧ A.Perm S ∧ SrtE S := by
 subst ha hb
 have hll : L.length = pre.length + A.length + post.length := by rw [hL];simp;omega
 refine CallA.of pg ord266 Tryz.func266 rfl Tryz.ntmps266 Tryz.results266 rfl fun h0 G0 O0 => ?_
 by_cases hA : A = []
 ·subst hA
  repeat' (first|refine Sp.h ?_|refine Lk.r rfl ?_|refine Rf.mk rfl ?_|refine xO ?_|fail)
  refine CA.loop (fun _ : Unit => ⟨[(8, it ((pre.length : Int) + 1)), (2, it ((pre.length : Int) + ([] : List EvS).length))], [eR v L]⟩) (fun _ => True) (fun _ => 0) () xE trivial ?_
  rintro ⟨⟩ -
  have h0 : (([] : List EvS).length : Int) = 0 := rfl
  repeat' (first|refine Sp.h ?_|refine Lk.r rfl ?_|refine Rf.mk rfl ?_|refine xB ?_|refine xN ?_|fail)
  exact ⟨_, _, .tup (.z), L, [], rfl, rfl, by simpa using hL, List.Perm.refl _, List.Pairwise.nil⟩
 obtain ⟨x0, A', rfl⟩ := List.exists_cons_of_ne_nil hA
 have hbl : (pre.length : Int) + ((x0 :: A').length : Nat) = ((pre.length + (x0 :: A').length : Nat) : Int) := by omega
 rw [hbl]
 repeat' (first|refine Sp.h ?_|refine Lk.r rfl ?_|refine Rf.mk rfl ?_|refine xO ?_|fail)
 refine CA.loop (fun q : Nat × List EvS => ⟨[(0, .ow v), (1, it (pre.length : Nat)), (2, it ((pre.length + (x0 :: A').length : Nat) : Int)), (3, .fn 144 []), (8, it q.1)], [eR v q.2]⟩)
  (fun q => ∃ S R, q.1 = pre.length + S.length ∧ q.2 = pre ++ (S ++ R) ++ post ∧ SrtE S ∧ (x0 :: A').Perm (S ++ R)) (fun q => pre.length + (x0 :: A').length - q.1) (pre.length + 1, L) xE ⟨[x0], A', rfl, by simpa using hL, by simp, List.Perm.refl _⟩ ?_
 rintro ⟨i, D⟩ ⟨S, R, h1, h2, h3, h4⟩
 simp only at h1 h2
 simp only
 have hpl := h4.length_eq
 rw [List.length_append] at hpl
 have hDl : D.length = L.length := by rw [h2];simp only [List.length_append] at hpl ⊢;rw [hll];omega
 by_cases hi : i < pre.length + (x0 :: A').length
 ·have hR : R ≠ [] := fun h => by subst h;simp at hpl;simp at hi;omega
  obtain ⟨x, R', rfl⟩ := List.exists_cons_of_ne_nil hR
  repeat' (first|refine Sp.h ?_|refine Lk.r rfl ?_|refine Rf.mk rfl ?_|refine xA ?_|fail)
  refine CA.loop (fun q : Nat × List EvS => ⟨[(0, .ow v), (1, it (pre.length : Nat)), (2, it ((pre.length + (x0 :: A').length : Nat) : Int)), (3, .fn 144 []), (8, it i), (9, it q.1)], [eR v q.2]⟩)
   (fun q => ∃ S1 S2, q.1 = pre.length + S1.length ∧ q.2 = (pre ++ S1) ++ x :: (S2 ++ R' ++ post) ∧ SrtE (S1 ++ S2) ∧ S.Perm (S1 ++ S2) ∧ ∀ s ∈ S2, LtE x s) (fun q => q.1) (i, D) xE ⟨S, [], h1, by simp only;rw [h2];simp, by simpa using h3, by simp, by simp⟩ ?_
  rintro ⟨j, E⟩ ⟨S1, S2, g1, g2, g3, g4, g5⟩
  simp only at g1 g2
  simp only
  have hpl2 := g4.length_eq
  rw [List.length_append] at hpl2
  have hEl : E.length = L.length := by rw [g2];simp only [List.length_append, List.length_cons] at hpl ⊢;rw [hll];simp only [List.length_cons];omega
  have hend : (∀ m y, S1 = m ++ [y] → ¬ LtE x y) → ∃ T Q, i + 1 = pre.length + T.length ∧ E = pre ++ (T ++ Q) ++ post ∧ SrtE T ∧ (x0 :: A').Perm (T ++ Q) := fun h =>
   ⟨S1 ++ x :: S2, R', by simp;omega, by rw [g2];simp, srt_ins g3 g5 h, h4.trans (by
    have e1 : S1 ++ x :: S2 ++ R' = S1 ++ (x :: (S2 ++ R')) := by simp
    have e2 : (S1 ++ (x :: (S2 ++ R'))).Perm (x :: (S1 ++ (S2 ++ R'))) := List.perm_middle
    rw [e1]
    refine List.Perm.trans ?_ e2.symm
    refine List.perm_middle.trans (List.Perm.cons x ?_)
    rw [← List.append_assoc]
    exact g4.append_right R')⟩
  by_cases hS : S1 = []
  ·subst hS
   have hj : j = pre.length := by simpa using g1
   repeat' (first|refine Sp.h ?_|refine Lk.r rfl ?_|refine Rf.mk rfl ?_|refine xB ?_|refine OpK.r rfl ?_|refine xD ?_|refine xO ?_|(apply Cl.p (order1_p _ _);(focus repeat' (first|fail))))
   exact PA.lp (i + 1, E) xE ⟨hend (fun m y h => by simp at h), by simp only;omega⟩
  ·obtain ⟨m, y, rfl⟩ := ne_snoc hS
   obtain ⟨q, rfl⟩ : ∃ q, j = q + 1 := ⟨j - 1, by simp at g1;omega⟩
   have hq : q = (pre ++ m).length := by simp at g1 ⊢;omega
   have g2' : E = (pre ++ m) ++ y :: x :: (S2 ++ R' ++ post) := by rw [g2];simp
   have e1 : ((q + 1 : Nat) : Int) - 1 = (q : Nat) := by omega
   have hx : E[q + 1]? = some x := by
    rw [g2];exact at_len (by simp at g1 ⊢;omega)
   have hy : E[q]? = some y := by rw [g2'];exact at_len hq
   have hgt : (pre.length : Int) < ((q + 1 : Nat) : Int) := by simp at g1;omega
   have hcm := cmpE_neg (a := x) (b := y)
   by_cases hlt : LtE x y
   ·have hc := hcm.2 hlt
    have hy2 : (E.set (q + 1) y)[q]? = some y := by rw [List.getElem?_set, if_neg (by omega), hy]
    repeat' (first|refine Sp.h ?_|refine Lk.r rfl ?_|refine Rf.mk rfl ?_|refine xA ?_|refine OpK.r rfl ?_|refine xU ?_|refine xI ?_|(apply Ix.r;(focus assumption);(focus omega))|refine xJ ?_|refine Ch.l ⟨rfl, rfl⟩ ?_|(apply SetAsk.r;focus repeat' constructor)|refine Up.r rfl ?_|refine xD ?_|refine xO ?_|(apply Cl.p (order1_p _ _);(focus repeat' (first|exact Lend.nil|apply Lend.keep|fail))))
    all_goals rw [e1]
    all_goals refine PA.lp (q, (E.set (q + 1) y).set q x) xE ⟨⟨m, y :: S2, by simp at g1 ⊢;omega, by simp only;rw [g2', swap_len' hq];simp, by simpa using g3, g4.trans (by simp), fun s hs => ?_⟩, by simp only;omega⟩
    all_goals rcases List.mem_cons.1 hs with rfl|hs
    all_goals first|exact hlt|exact g5 s hs
   ·have hc : ¬ cmpE x y < 0 := fun h => hlt (hcm.1 h)
    repeat' (first|refine Sp.h ?_|refine Lk.r rfl ?_|refine Rf.mk rfl ?_|refine xA ?_|refine xB ?_|refine OpK.r rfl ?_|refine xU ?_|refine xI ?_|(apply Ix.r;(focus assumption);(focus omega))|refine xJ ?_|refine Ch.l ⟨rfl, rfl⟩ ?_|refine xD ?_|refine xO ?_|(apply Cl.p (order1_p _ _);(focus repeat' (first|exact Lend.nil|apply Lend.keep|fail))))
    exact PA.lp (i + 1, E) xE ⟨hend (fun m' y' h => by
     obtain ⟨-, h9⟩ := List.append_inj' h rfl
     cases h9;exact hlt), by simp only;omega⟩
 ·have hR : R = [] := List.eq_nil_of_length_eq_zero (by simp at hpl hi;omega)
  subst hR
  repeat' (first|refine Sp.h ?_|refine Lk.r rfl ?_|refine Rf.mk rfl ?_|refine xB ?_|refine xN ?_|fail)
  exact ⟨_, _, .tup (.z), D, S, rfl, rfl, by rw [h2];simp, by simpa using h4, h3⟩
end Go.Proofs.YtmllihbhphnolaaGreat
namespace Go.Proofs.YtmllihbhphnolaaGreat
open Go Go.CF
set_option maxRecDepth 20000
set_option maxHeartbeats 2000000 in
theorem swapRange_n (v : Value) (L p U M V q : List EvS) (a b n : Nat) (hL : L = p ++ (U ++ (M ++ (V ++ q)))) (ha : a = p.length) (hb : b = p.length + U.length + M.length) (hn : n = U.length) (hv : V.length = U.length) (hl : L.length ≤ 100000) :
  CallA Tryz.prog 297 [.ow v, it a, it b, it n, .fn 144 []] [eR v L] fun r o => r = .tup [] ∧ o = [eR v (p ++ (V ++ (M ++ (U ++ q))))] := by
 have hll : L.length = p.length + U.length + M.length + V.length + q.length := by rw [hL];simp;omega
 refine CallA.of pg ord297 Tryz.func297 rfl Tryz.ntmps297 Tryz.results297 rfl fun h0 G0 O0 => ?_
 repeat' (first|refine Sp.h ?_|refine Lk.r rfl ?_|refine Rf.mk rfl ?_|fail)
 refine CA.loop (fun s : Nat × List EvS => ⟨[(0, .ow v), (1, it a), (2, it b), (3, it n), (10, it s.1)], [eR v s.2]⟩)
  (fun s => ∃ U1 U2 V1 V2, U = U1 ++ U2 ∧ V = V1 ++ V2 ∧ U1.length = s.1 ∧ V1.length = s.1 ∧ s.2 = p ++ (V1 ++ (U2 ++ (M ++ (U1 ++ (V2 ++ q)))))) (fun s => n - s.1) (0, L) xE ⟨[], U, [], V, rfl, rfl, rfl, rfl, by simpa using hL⟩ ?_
 rintro ⟨i, D⟩ ⟨U1, U2, V1, V2, h1, h2, h3, h4, h5⟩
 simp only at h3 h4 h5
 simp only
 have k1 := congrArg List.length h1
 have k2 := congrArg List.length h2
 rw [List.length_append] at k1 k2
 have hDl : D.length = L.length := by rw [h5, hll];simp only [List.length_append];omega
 by_cases hi : i < n
 ·obtain ⟨x, U3, rfl⟩ := List.exists_cons_of_ne_nil (l := U2) (fun h => by subst h;simp at k1;omega)
  obtain ⟨y, V3, rfl⟩ := List.exists_cons_of_ne_nil (l := V2) (fun h => by subst h;simp at k2;omega)
  have f1 : D = (p ++ V1) ++ x :: (U3 ++ (M ++ (U1 ++ (y :: V3 ++ q)))) := by rw [h5];simp
  have f2 : D = (p ++ V1 ++ x :: U3 ++ M ++ U1) ++ y :: (V3 ++ q) := by rw [h5];simp
  have i1 : a + i = (p ++ V1).length := by rw [List.length_append];omega
  have i2 : b + i = (p ++ V1 ++ x :: U3 ++ M ++ U1).length := by simp at k1 ⊢;omega
  have hne : a + i < b + i := by simp at k1;omega
  have hx : D[a + i]? = some x := by rw [f1];exact at_len i1
  have hy : D[b + i]? = some y := by rw [f2];exact at_len i2
  have hy2 : (D.set (a + i) y)[b + i]? = some y := by rw [List.getElem?_set, if_neg (by omega), hy]
  have hlen1 : a + i < D.length := (List.getElem?_eq_some_iff.1 hx).1
  have hlen2 : b + i < D.length := (List.getElem?_eq_some_iff.1 hy).1
  have hset : (D.set (a + i) y).set (b + i) x = p ++ ((V1 ++ [y]) ++ (U3 ++ (M ++ ((U1 ++ [x]) ++ (V3 ++ q))))) := by
   rw [f1, set_len i1]
   have : (p ++ V1) ++ y :: (U3 ++ (M ++ (U1 ++ (y :: V3 ++ q)))) = (p ++ V1 ++ y :: U3 ++ M ++ U1) ++ y :: (V3 ++ q) := by simp
   rw [this, set_len (by simp at i2 ⊢;omega)]
   simp
  repeat' (first|refine Sp.h ?_|refine Lk.r rfl ?_|refine Rf.mk rfl ?_|refine xA ?_|refine OpK.r rfl ?_|refine xU ?_|refine xI ?_|refine xJ ?_|refine Ch.l ⟨rfl, rfl⟩ ?_|(apply SetAsk.r;focus repeat' constructor)|refine Up.r rfl ?_|refine xD ?_|refine xO ?_|fail)
  all_goals exact PA.lp (i + 1, (D.set (a + i) y).set (b + i) x) xE ⟨⟨U1 ++ [x], U3, V1 ++ [y], V3, by simp [h1], by simp [h2], by simp [h3], by simp [h4], hset⟩, by simp only;omega⟩
 ·have e1 : U2 = [] := List.eq_nil_of_length_eq_zero (by omega)
  have e2 : V2 = [] := List.eq_nil_of_length_eq_zero (by omega)
  subst e1 e2
  rw [List.append_nil] at h1 h2
  subst h1 h2
  have h5 : D = p ++ (V ++ (M ++ (U ++ q))) := by rw [h5];simp
  repeat' (first|refine Sp.h ?_|refine Lk.r rfl ?_|refine Rf.mk rfl ?_|refine xB ?_|refine xN ?_|fail)
  exact ⟨_, [eR v D], .tup (.z), rfl, by rw [h5]⟩
theorem swapRange_a (v : Value) (L p U M V q : List EvS) (a b n : Int) (hL : L = p ++ (U ++ (M ++ (V ++ q)))) (ha : a = p.length) (hb : b = p.length + U.length + M.length) (hn : n = U.length) (hv : V.length = U.length) (hl : L.length ≤ 100000) :
  CallA Tryz.prog 297 [.ow v, it a, it b, it n, .fn 144 []] [eR v L] fun r o => r = .tup [] ∧ o = [eR v (p ++ (V ++ (M ++ (U ++ q))))] := by
 obtain ⟨A, rfl⟩ : ∃ A : Nat, a = A := ⟨_, ha⟩
 obtain ⟨B, rfl⟩ : ∃ B : Nat, b = B := ⟨p.length + U.length + M.length, by omega⟩
 obtain ⟨N, rfl⟩ : ∃ N : Nat, n = N := ⟨_, hn⟩
 exact swapRange_n v L p U M V q A B N hL (by omega) (by omega) (by omega) hv hl
theorem split_at {α : Type} (l : List α) (n : Nat) (h : n ≤ l.length) : ∃ a b, l = a ++ b ∧ a.length = n := ⟨l.take n, l.drop n, (List.take_append_drop n l).symm, by simp [h]⟩
set_option maxHeartbeats 2000000 in
theorem rotate_n (v : Value) (L p U V q : List EvS) (a m b : Nat) (hL : L = p ++ (U ++ (V ++ q))) (ha : a = p.length) (hm : m = p.length + U.length) (hb : b = p.length + U.length + V.length) (hu : 0 < U.length) (hv : 0 < V.length) (hl : L.length ≤ 100000) :
  CallA Tryz.prog 288 [.ow v, it a, it m, it b, .fn 144 []] [eR v L] fun r o => r = .tup [] ∧ o = [eR v (p ++ (V ++ (U ++ q)))] := by
 have hll : L.length = p.length + U.length + V.length + q.length := by rw [hL];simp;omega
 have z1 : ((m : Nat) : Int) - (a : Nat) = (U.length : Nat) := by omega
 have z2 : ((b : Nat) : Int) - (m : Nat) = (V.length : Nat) := by omega
 refine CallA.of pg ord288 Tryz.func288 rfl Tryz.ntmps288 Tryz.results288 rfl fun h0 G0 O0 => ?_
 (repeat' (first|(show CA _ _ (Code.block 0 _) _ _;apply Stopped.out)|refine Sp.h ?_|refine Lk.r rfl ?_|refine Rf.mk rfl ?_|refine xO ?_|fail));any_goals apply Stopped.mk
 rw [z1, z2]
 repeat' (first|refine Sp.h ?_|fail)
 refine CA.loop (fun s : Nat × Nat × List EvS => ⟨[(0, .ow v), (2, it m), (4, .fn 144 []), (10, it s.1), (11, it s.2.1)], [eR v s.2.2]⟩)
  (fun s => 0 < s.1 ∧ 0 < s.2.1 ∧ ∃ P u w Q, s.2.2 = (p ++ P) ++ (u ++ (w ++ (Q ++ q))) ∧ (p ++ P).length + s.1 = m ∧ u.length = s.1 ∧ w.length = s.2.1 ∧ P ++ (w ++ (u ++ Q)) = V ++ U) (fun s => s.1 + s.2.1) (U.length, V.length, L) xE ⟨hu, hv, [], U, V, [], by simpa using hL, by simp [hm], rfl, rfl, by simp⟩ ?_
 rintro ⟨i, j, D⟩ ⟨h1, h2, P, u, w, Q, h3, h4, h5, h6, h7⟩
 simp only at h1 h2 h3 h4 h5 h6
 simp only
 have hlen := congrArg List.length h7
 simp only [List.length_append] at hlen
 have hDl : D.length = L.length := by rw [h3, hll];simp only [List.length_append];omega
 have hmj : m + j ≤ 200000 := by rw [List.length_append] at h4;omega
 rcases Nat.lt_trichotomy i j with hij|hij|hij
 ·obtain ⟨w1, w2, rfl, hw1⟩ := split_at w (j - i) (by omega)
  rw [List.length_append] at h6
  have hsw := swapRange_a v D (p ++ P) u w1 w2 (Q ++ q) ((m : Nat) - (i : Nat)) ((m : Nat) + (j : Nat) - (i : Nat)) i (by rw [h3];simp) (by omega) (by omega) (by omega) (by omega) (by omega)
  have e1 : ((j : Nat) : Int) - (i : Nat) = ((j - i : Nat) : Int) := by omega
  repeat' (first|refine Sp.h ?_|refine Lk.r rfl ?_|refine Rf.mk rfl ?_|refine xB ?_|refine xO ?_|fail)
  refine xW (hsw) ?_
  rintro _ _ ⟨rfl, rfl⟩
  repeat' (first|refine Sp.h ?_|refine Lk.r rfl ?_|refine Rf.mk rfl ?_|refine xO ?_|fail)
  rw [e1]
  exact PA.lp (i, j - i, _) xE ⟨⟨h1, by simp only;omega, P, w2, w1, u ++ Q, by simp, h4, by simp only;omega, hw1, by rw [← h7];simp⟩, by simp only;omega⟩
 ·subst hij
  have hsw := swapRange_a v D (p ++ P) u [] w (Q ++ q) ((m : Nat) - (i : Nat)) m i (by rw [h3];simp) (by omega) (by simp only [List.length_nil];omega) (by omega) (by omega) (by omega)
  repeat' (first|refine Sp.h ?_|refine Lk.r rfl ?_|refine Rf.mk rfl ?_|refine xA ?_|refine xO ?_|fail)
  refine xW (hsw) ?_
  rintro _ _ ⟨rfl, rfl⟩
  repeat' (first|refine Sp.h ?_|refine xN ?_|fail)
  refine ⟨_, [eR v (p ++ P ++ (w ++ ([] ++ (u ++ (Q ++ q)))))], .tup (.z), rfl, ?_⟩
  have : p ++ P ++ (w ++ ([] ++ (u ++ (Q ++ q)))) = p ++ ((P ++ (w ++ (u ++ Q))) ++ q) := by simp
  rw [this, h7];simp
 ·obtain ⟨u1, u2, rfl, hu1⟩ := split_at u j (by omega)
  rw [List.length_append] at h5
  have hsw := swapRange_a v D (p ++ P) u1 u2 w (Q ++ q) ((m : Nat) - (i : Nat)) m j (by rw [h3];simp) (by omega) (by omega) (by omega) (by omega) (by omega)
  have e1 : ((i : Nat) : Int) - (j : Nat) = ((i - j : Nat) : Int) := by omega
  repeat' (first|refine Sp.h ?_|refine Lk.r rfl ?_|refine Rf.mk rfl ?_|refine xA ?_|refine xB ?_|refine xO ?_|fail)
  refine xW (hsw) ?_
  rintro _ _ ⟨rfl, rfl⟩
  repeat' (first|refine Sp.h ?_|refine Lk.r rfl ?_|refine Rf.mk rfl ?_|refine xO ?_|fail)
  rw [e1]
  exact PA.lp (i - j, j, _) xE ⟨⟨by simp only;omega, h2, P ++ w, u2, u1, Q, by simp, by simp at h4 ⊢;omega, by simp only;omega, hu1, by rw [← h7];simp⟩, by simp only;omega⟩
theorem rotate_a (v : Value) (L p U V q : List EvS) (a m b : Int) (hL : L = p ++ (U ++ (V ++ q))) (ha : a = p.length) (hm : m = p.length + U.length) (hb : b = p.length + U.length + V.length) (hu : 0 < U.length) (hv : 0 < V.length) (hl : L.length ≤ 100000) :
  CallA Tryz.prog 288 [.ow v, it a, it m, it b, .fn 144 []] [eR v L] fun r o => r = .tup [] ∧ o = [eR v (p ++ (V ++ (U ++ q)))] := by
 obtain ⟨A, rfl⟩ : ∃ A : Nat, a = A := ⟨_, ha⟩
 obtain ⟨M, rfl⟩ : ∃ M : Nat, m = M := ⟨p.length + U.length, by omega⟩
 obtain ⟨B, rfl⟩ : ∃ B : Nat, b = B := ⟨p.length + U.length + V.length, by omega⟩
 exact rotate_n v L p U V q A M B hL (by omega) (by omega) (by omega) hu hv hl
end Go.Proofs.YtmllihbhphnolaaGreat
namespace Go.Proofs.YtmllihbhphnolaaGreat
open Go Go.CF
set_option maxRecDepth 20000
theorem LtE.asymm {a b : EvS} (h : LtE a b) : ¬ LtE b a := by unfold LtE at *;omega
theorem le_lt {a b c : EvS} (h : ¬ LtE b a) (h2 : LtE b c) : LtE a c := by unfold LtE at *;omega
theorem lt_le {a b c : EvS} (h : LtE a b) (h2 : ¬ LtE c b) : LtE a c := by unfold LtE at *;omega
theorem le_le {a b c : EvS} (h : ¬ LtE b a) (h2 : ¬ LtE c b) : ¬ LtE c a := by unfold LtE at *;omega
set_option maxHeartbeats 4000000 in
theorem merge1_a (v : Value) (L p B q : List EvS) (x : EvS) (a m b : Nat) (hL : L = p ++ (x :: (B ++ q))) (ha : a = p.length) (hm : m = p.length + 1) (hb : b = p.length + 1 + B.length) (hs : SrtE B) (hl : L.length ≤ 100000) :
  CallA Tryz.prog 267 [.ow v, it a, it m, it b, .fn 144 []] [eR v L] fun r o => ∃ S, r = .tup [] ∧ o = [eR v (p ++ (S ++ q))] ∧ (x :: B).Perm S ∧ SrtE S := by
 have hll : L.length = p.length + 1 + B.length + q.length := by rw [hL];simp;omega
 have hLx : L[a]? = some x := by rw [hL];exact at_len ha
 refine CallA.of pg ord267 Tryz.func267 rfl Tryz.ntmps267 Tryz.results267 rfl fun h0 G0 O0 => ?_
 repeat' (first|refine Sp.h ?_|refine Lk.r rfl ?_|refine Rf.mk rfl ?_|refine xA ?_|refine xO ?_|fail)
 refine CA.loop (fun s : Nat × Nat => ⟨[(0, .ow v), (1, it a), (4, .fn 144 []), (10, it s.1), (11, it s.2)], [eR v L]⟩)
  (fun s => ∃ B1 B2 B3, B = B1 ++ (B2 ++ B3) ∧ s.1 = m + B1.length ∧ s.2 = m + B1.length + B2.length ∧ (∀ y ∈ B1, LtE y x) ∧ ∀ y ∈ B3, ¬ LtE y x) (fun s => s.2 - s.1) (m, b) xE ⟨[], B, [], by simp, by simp, by simp;omega, by simp, by simp⟩ ?_
 rintro ⟨i, j⟩ ⟨B1, B2, B3, h1, h2, h3, h4, h5⟩
 simp only at h2 h3
 simp only
 have hBl := congrArg List.length h1
 simp only [List.length_append] at hBl
 by_cases hij : i < j
 ·obtain ⟨C, D, rfl, hC⟩ := split_at B2 ((i + j) / 2 - i) (by omega)
  rw [List.length_append] at h3 hBl
  obtain ⟨y, D, rfl⟩ := List.exists_cons_of_ne_nil (l := D) (fun h => by subst h;simp at h3;omega)
  simp only [List.length_cons] at h3 hBl
  have e1 : ((i : Int) + (j : Int)) / 2 = (((i + j) / 2 : Nat) : Int) := by omega
  have hy : L[(i + j) / 2]? = some y := by
   have : L = (p ++ x :: (B1 ++ C)) ++ y :: (D ++ (B3 ++ q)) := by rw [hL, h1];simp
   rw [this];exact at_len (by simp;omega)
  rw [h1] at hs
  obtain ⟨-, hs2, -⟩ := List.pairwise_append.1 hs
  obtain ⟨hs3, -, -⟩ := List.pairwise_append.1 hs2
  obtain ⟨-, hs5, hs6⟩ := List.pairwise_append.1 hs3
  obtain ⟨hs7, -⟩ := List.pairwise_cons.1 hs5
  have hcm := cmpE_neg (a := y) (b := x)
  by_cases hlt : LtE y x
  ·have hc := hcm.2 hlt
   repeat' (first|refine Sp.h ?_|refine Lk.r rfl ?_|refine Rf.mk rfl ?_|refine xA ?_|refine OpK.r rfl ?_|refine xU ?_|refine xI ?_|refine xJ ?_|refine Ch.l ⟨rfl, rfl⟩ ?_|refine xD ?_|refine xO ?_|(apply Cvk.i64;(focus rfl);(focus omega))|(apply Cvk.u64;(focus rfl);(focus omega))|(apply Cl.p (order1_p _ _);(focus repeat' (first|exact Lend.nil|apply Lend.keep|fail))))
   refine PA.lp ((i + j) / 2 + 1, j) xE ⟨⟨B1 ++ (C ++ [y]), D, B3, by simp [h1], by simp;omega, by simp;omega, fun z hz => ?_, h5⟩, by simp only;omega⟩
   rcases List.mem_append.1 hz with hz|hz
   ·exact h4 z hz
   rcases List.mem_append.1 hz with hz|hz
   ·exact le_lt (hs6 z hz y (by simp)) hlt
   ·rw [List.mem_singleton.1 hz];exact hlt
  ·have hc : ¬ cmpE y x < 0 := fun h => hlt (hcm.1 h)
   repeat' (first|refine Sp.h ?_|refine Lk.r rfl ?_|refine Rf.mk rfl ?_|refine xA ?_|refine xB ?_|refine OpK.r rfl ?_|refine xU ?_|refine xI ?_|refine xJ ?_|refine Ch.l ⟨rfl, rfl⟩ ?_|refine xD ?_|refine xO ?_|(apply Cvk.i64;(focus rfl);(focus omega))|(apply Cvk.u64;(focus rfl);(focus omega))|(apply Cl.p (order1_p _ _);(focus repeat' (first|exact Lend.nil|apply Lend.keep|fail))))
   refine PA.lp (i, (i + j) / 2) xE ⟨⟨B1, C, y :: D ++ B3, by simp [h1], h2, by simp only;omega, h4, fun z hz => ?_⟩, by simp only;omega⟩
   rcases List.mem_append.1 hz with hz|hz
   ·rcases List.mem_cons.1 hz with rfl|hz
    ·exact hlt
    ·exact fun h => hs7 z hz (lt_le h hlt)
   ·exact h5 z hz
 ·have e2 : B2 = [] := List.eq_nil_of_length_eq_zero (by omega)
  subst e2
  repeat' (first|refine Sp.h ?_|refine Lk.r rfl ?_|refine Rf.mk rfl ?_|refine xB ?_|fail)
  refine CA.loop (fun s : Nat × List EvS => ⟨[(0, .ow v), (10, it i), (13, it s.1)], [eR v s.2]⟩)
   (fun s => ∃ C1 C2, B1 = C1 ++ C2 ∧ s.1 = (p ++ C1).length ∧ s.2 = (p ++ C1) ++ x :: (C2 ++ (B3 ++ q))) (fun s => i - s.1) (a, L) xE ⟨[], B1, rfl, by simpa using ha, by simp only;rw [hL, h1];simp⟩ ?_
  rintro ⟨k, D⟩ ⟨C1, C2, g1, g2, g3⟩
  simp only at g2 g3
  simp only
  have hC := congrArg List.length g1
  rw [List.length_append] at hC
  rw [List.length_append] at g2
  have hDl : D.length = L.length := by rw [g3, hll];simp only [List.length_append, List.length_cons];simp at hBl;omega
  by_cases hk : C2 = []
  ·subst hk
   have hki : k + 1 = i := by simp at hC;omega
   repeat' (first|refine Sp.h ?_|refine Lk.r rfl ?_|refine Rf.mk rfl ?_|refine xB ?_|refine xN ?_|refine xO ?_|fail)
   refine ⟨_, [eR v D], .tup (.z), B1 ++ x :: B3, rfl, by rw [g3, g1];simp, ?_, ?_⟩
   ·rw [h1];exact List.perm_middle.symm
   ·rw [h1] at hs
    obtain ⟨s1, s2, s3⟩ := List.pairwise_append.1 hs
    refine List.pairwise_append.2 ⟨s1, List.pairwise_cons.2 ⟨h5, s2⟩, fun s hs t ht => ?_⟩
    rcases List.mem_cons.1 ht with rfl|ht
    ·exact (h4 s hs).asymm
    ·exact s3 s hs t ht
  ·obtain ⟨y, C3, rfl⟩ := List.exists_cons_of_ne_nil hk
   simp only [List.length_cons] at hC
   have hk0 : k = (p ++ C1).length := by rw [List.length_append];exact g2
   have f2 : D = (p ++ C1 ++ [x]) ++ y :: (C3 ++ (B3 ++ q)) := by rw [g3];simp
   have hx1 : D[k]? = some x := by rw [g3];exact at_len hk0
   have hy1 : D[k + 1]? = some y := by rw [f2];exact at_len (by simp;omega)
   have hy2 : (D.set k y)[k + 1]? = some y := by rw [List.getElem?_set, if_neg (by omega), hy1]
   have hsw : (D.set k y).set (k + 1) x = (p ++ (C1 ++ [y])) ++ x :: (C3 ++ (B3 ++ q)) := by rw [g3, List.cons_append, swap_len hk0];simp
   repeat' (first|refine Sp.h ?_|refine Lk.r rfl ?_|refine Rf.mk rfl ?_|refine xA ?_|refine OpK.r rfl ?_|refine xU ?_|refine xI ?_|refine xJ ?_|refine Ch.l ⟨rfl, rfl⟩ ?_|(apply SetAsk.r;focus repeat' constructor)|refine Up.r rfl ?_|refine xD ?_|refine xO ?_|fail)
   all_goals exact PA.lp (k + 1, (D.set k y).set (k + 1) x) xE ⟨⟨C1 ++ [y], C3, by simp [g1], by simp;omega, hsw⟩, by simp only;omega⟩
set_option maxHeartbeats 4000000 in
theorem merge2_a (v : Value) (L p A q : List EvS) (y : EvS) (a m b : Nat) (hL : L = p ++ (A ++ y :: q)) (ha : a = p.length) (hm : m = p.length + A.length) (hb : b = p.length + A.length + 1) (hA : A.length ≠ 1) (hs : SrtE A) (hl : L.length ≤ 100000) :
  CallA Tryz.prog 267 [.ow v, it a, it m, it b, .fn 144 []] [eR v L] fun r o => ∃ S, r = .tup [] ∧ o = [eR v (p ++ (S ++ q))] ∧ (A ++ [y]).Perm S ∧ SrtE S := by
 have hll : L.length = p.length + A.length + 1 + q.length := by rw [hL];simp;omega
 have hLy : L[m]? = some y := by
  have : L = (p ++ A) ++ y :: q := by rw [hL];simp
  rw [this];exact at_len (by simp;omega)
 refine CallA.of pg ord267 Tryz.func267 rfl Tryz.ntmps267 Tryz.results267 rfl fun h0 G0 O0 => ?_
 repeat' (first|refine Sp.h ?_|refine Lk.r rfl ?_|refine Rf.mk rfl ?_|refine xA ?_|refine xB ?_|refine xO ?_|fail)
 refine CA.loop (fun s : Nat × Nat => ⟨[(0, .ow v), (2, it m), (4, .fn 144 []), (14, it s.1), (15, it s.2)], [eR v L]⟩)
  (fun s => ∃ A1 A2 A3, A = A1 ++ (A2 ++ A3) ∧ s.1 = a + A1.length ∧ s.2 = a + A1.length + A2.length ∧ (∀ x ∈ A1, ¬ LtE y x) ∧ ∀ x ∈ A3, LtE y x) (fun s => s.2 - s.1) (a, m) xE ⟨[], A, [], by simp, by simp, by simp;omega, by simp, by simp⟩ ?_
 rintro ⟨i, j⟩ ⟨A1, A2, A3, h1, h2, h3, h4, h5⟩
 simp only at h2 h3
 simp only
 have hAl := congrArg List.length h1
 simp only [List.length_append] at hAl
 by_cases hij : i < j
 ·obtain ⟨C, D, rfl, hC⟩ := split_at A2 ((i + j) / 2 - i) (by omega)
  rw [List.length_append] at h3 hAl
  obtain ⟨x, D, rfl⟩ := List.exists_cons_of_ne_nil (l := D) (fun h => by subst h;simp at h3;omega)
  simp only [List.length_cons] at h3 hAl
  have e1 : ((i : Int) + (j : Int)) / 2 = (((i + j) / 2 : Nat) : Int) := by omega
  have hx : L[(i + j) / 2]? = some x := by
   have : L = (p ++ (A1 ++ C)) ++ x :: (D ++ (A3 ++ y :: q)) := by rw [hL, h1];simp
   rw [this];exact at_len (by simp;omega)
  rw [h1] at hs
  obtain ⟨-, hs2, -⟩ := List.pairwise_append.1 hs
  obtain ⟨hs3, -, -⟩ := List.pairwise_append.1 hs2
  obtain ⟨-, hs5, hs6⟩ := List.pairwise_append.1 hs3
  obtain ⟨hs7, -⟩ := List.pairwise_cons.1 hs5
  have hcm := cmpE_neg (a := y) (b := x)
  by_cases hlt : LtE y x
  ·have hc := hcm.2 hlt
   repeat' (first|refine Sp.h ?_|refine Lk.r rfl ?_|refine Rf.mk rfl ?_|refine xA ?_|refine OpK.r rfl ?_|refine xU ?_|refine xI ?_|refine xJ ?_|refine Ch.l ⟨rfl, rfl⟩ ?_|refine xD ?_|refine xO ?_|(apply Cvk.i64;(focus rfl);(focus omega))|(apply Cvk.u64;(focus rfl);(focus omega))|(apply Cl.p (order1_p _ _);(focus repeat' (first|exact Lend.nil|apply Lend.keep|fail))))
   refine PA.lp (i, (i + j) / 2) xE ⟨⟨A1, C, x :: D ++ A3, by simp [h1], h2, by simp only;omega, h4, fun z hz => ?_⟩, by simp only;omega⟩
   rcases List.mem_append.1 hz with hz|hz
   ·rcases List.mem_cons.1 hz with rfl|hz
    ·exact hlt
    ·exact lt_le hlt (hs7 z hz)
   ·exact h5 z hz
  ·have hc : ¬ cmpE y x < 0 := fun h => hlt (hcm.1 h)
   repeat' (first|refine Sp.h ?_|refine Lk.r rfl ?_|refine Rf.mk rfl ?_|refine xA ?_|refine xB ?_|refine OpK.r rfl ?_|refine xU ?_|refine xI ?_|refine xJ ?_|refine Ch.l ⟨rfl, rfl⟩ ?_|refine xD ?_|refine xO ?_|(apply Cvk.i64;(focus rfl);(focus omega))|(apply Cvk.u64;(focus rfl);(focus omega))|(apply Cl.p (order1_p _ _);(focus repeat' (first|exact Lend.nil|apply Lend.keep|fail))))
   refine PA.lp ((i + j) / 2 + 1, j) xE ⟨⟨A1 ++ (C ++ [x]), D, A3, by simp [h1], by simp;omega, by simp;omega, fun z hz => ?_, h5⟩, by simp only;omega⟩
   rcases List.mem_append.1 hz with hz|hz
   ·exact h4 z hz
   rcases List.mem_append.1 hz with hz|hz
   ·exact le_le (hs6 z hz x (by simp)) hlt
   ·rw [List.mem_singleton.1 hz];exact hlt
 ·have e2 : A2 = [] := List.eq_nil_of_length_eq_zero (by omega)
  subst e2
  repeat' (first|refine Sp.h ?_|refine Lk.r rfl ?_|refine Rf.mk rfl ?_|refine xB ?_|fail)
  refine CA.loop (fun s : Nat × List EvS => ⟨[(0, .ow v), (14, it i), (17, it s.1)], [eR v s.2]⟩)
   (fun s => ∃ C1 C2, A3 = C1 ++ C2 ∧ s.1 = (p ++ A1 ++ C1).length ∧ s.2 = (p ++ A1 ++ C1) ++ y :: (C2 ++ q)) (fun s => s.1) (m, L) xE ⟨A3, [], by simp, by simp at hAl ⊢;omega, by simp only;rw [hL, h1];simp⟩ ?_
  rintro ⟨k, D⟩ ⟨C1, C2, g1, g2, g3⟩
  simp only at g2 g3
  simp only
  have hC := congrArg List.length g1
  rw [List.length_append] at hC
  have hDl : D.length = L.length := by rw [g3, hll];simp only [List.length_append, List.length_cons];simp at hAl;omega
  by_cases hk : C1 = []
  ·subst hk
   have hki : k = i := by simp at g2;omega
   repeat' (first|refine Sp.h ?_|refine Lk.r rfl ?_|refine Rf.mk rfl ?_|refine xB ?_|refine xN ?_|fail)
   refine ⟨_, [eR v D], .tup (.z), A1 ++ y :: A3, rfl, by rw [g3, g1];simp, ?_, ?_⟩
   ·rw [h1]
    refine (List.perm_append_singleton y _).trans ?_
    exact List.perm_middle.symm
   ·rw [h1] at hs
    obtain ⟨s1, s2, s3⟩ := List.pairwise_append.1 hs
    refine List.pairwise_append.2 ⟨s1, List.pairwise_cons.2 ⟨fun t ht => (h5 t ht).asymm, s2⟩, fun s hs t ht => ?_⟩
    rcases List.mem_cons.1 ht with rfl|ht
    ·exact h4 s hs
    ·exact s3 s hs t ht
  ·obtain ⟨C3, x, rfl⟩ := ne_snoc hk
   obtain ⟨k, rfl⟩ : ∃ k', k = k' + 1 := ⟨k - 1, by simp at g2;omega⟩
   have hk0 : k = (p ++ A1 ++ C3).length := by simp at g2 ⊢;omega
   have f2 : D = (p ++ A1 ++ C3) ++ x :: y :: (C2 ++ q) := by rw [g3];simp
   have hx1 : D[k]? = some x := by rw [f2];exact at_len hk0
   have hy1 : D[k + 1]? = some y := by rw [g3];exact at_len g2
   have hy2 : (D.set (k + 1) x)[k]? = some x := by rw [List.getElem?_set, if_neg (by omega), hx1]
   have e1 : ((k + 1 : Nat) : Int) - 1 = (k : Nat) := by omega
   have hgt : i < k + 1 := by simp at g2;omega
   have hkb : k + 1 ≤ 200000 := by have := (List.getElem?_eq_some_iff.1 hy1).1;omega
   have hsw : (D.set (k + 1) x).set k y = (p ++ A1 ++ C3) ++ y :: (x :: C2 ++ q) := by rw [f2, swap_len' hk0];simp
   repeat' (first|refine Sp.h ?_|refine Lk.r rfl ?_|refine Rf.mk rfl ?_|refine xA ?_|refine OpK.r rfl ?_|refine xU ?_|refine xI ?_|(apply Ix.r;(focus assumption);(focus omega))|refine xJ ?_|refine Ch.l ⟨rfl, rfl⟩ ?_|(apply SetAsk.r;focus repeat' constructor)|refine Up.r rfl ?_|refine xD ?_|refine xO ?_|(apply Ix.q;(focus assumption);(focus assumption))|fail)
   all_goals rw [e1]
   all_goals exact PA.lp (k, (D.set (k + 1) x).set k y) xE ⟨⟨C3, x :: C2, by simp [g1], hk0, hsw⟩, by simp only;omega⟩
end Go.Proofs.YtmllihbhphnolaaGreat
