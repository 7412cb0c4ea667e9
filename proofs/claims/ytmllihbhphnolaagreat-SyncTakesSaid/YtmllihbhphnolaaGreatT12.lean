/- Part 12 of the ground of this proof: what its texts say of the model, the program and the plain data; conditions: those that are named. -/
import Derived.Test.YtmllihbhphnolaaGreatT11
namespace Go.Proofs.YtmllihbhphnolaaGreat
open Go Go.CF
set_option maxRecDepth 20000
noncomputable instance (l : List MkS) (x : MkS) : Decidable (HasNm l x) := Classical.propDecidable _
set_option maxHeartbeats 4000000 in
theorem add34_h (l : List MkS) (x : MkS) (hn : HasNm l x) (hl : l.length ≤ 100000) : CallP Tryz.prog 279 [mks l, mA x] (.tup [.val (.slice none 0 0), bl true]) := by
 refine CallA.of pg ord279 Tryz.func279 rfl Tryz.ntmps279 Tryz.results279 rfl fun h0 G0 O0 => ?_
 repeat' (first|refine Sp.h ?_|refine Lk.r rfl ?_|refine Rf.mk rfl ?_|(refine All.mk ?_;intro _)|(apply Fk.r;focus repeat' first|infer_instance|constructor)|refine Rf.mk ⟨rfl, rfl, rfl⟩ ?_|fail)
 rename_i b3 v
 apply CA.retype (m := ([] : List MkS)) (g := mkC)
 focus (repeat constructor)
 focus rfl
 refine CA.loop (fun q : Nat × Value × List MkS × Bool => ⟨[(0, mks l), (3, pm b3), (6, .ow q.2.1), (7, bl q.2.2.2), (8, it q.1)], [blkR b3 125 (mkC x), arrR q.2.1 125 4 q.2.2.1 mkC]⟩)
  (fun q => q.1 ≤ l.length ∧ q.2.2.1.length ≤ 2 * q.1 ∧ ∀ z ∈ l.take q.1, ¬ Nm z x) (fun q => l.length - q.1) (0, v, [], false) xE ⟨Nat.zero_le _, by simp, by simp⟩ ?_
 rintro ⟨i, w, out, done⟩ ⟨hi, ho, hq⟩
 simp only at hi ho hq
 simp only
 have hin : i < l.length := by
  rcases Nat.lt_or_ge i l.length with h|h
  ·exact h
  ·exfalso
   obtain ⟨y, hy, h9⟩ := hn
   refine hq y ?_ h9
   rw [List.take_of_length_le h];exact hy
 obtain ⟨y, hy⟩ := get_of hin
 by_cases hno : Nm y x
 ·obtain ⟨h1, h2⟩ := hno
  repeat' (first|refine Sp.h ?_|refine Lk.r rfl ?_|refine Rf.mk rfl ?_|refine xA ?_|refine OpK.r rfl ?_|(refine Im.mk ?_;intro _)|refine xT ?_|refine xI ?_|refine xN ?_|refine xD ?_|fail)
  all_goals exact Fin.p rfl rfl
 have h12 : y.rep ≠ x.rep ∨ y.num ≠ x.num := by unfold Nm at hno;omega
 have hq2 : ∀ z ∈ l.take (i + 1), ¬ Nm z x := by
  intro z hz
  rw [List.take_add_one, hy] at hz
  rcases List.mem_append.1 hz with hz|hz
  ·exact hq z hz
  ·rw [List.mem_singleton.1 hz];exact hno
 by_cases hlt : LtK x y
 ·by_cases hr : y.rep = x.rep
  ·have hnn : y.num ≠ x.num := h12.resolve_left (fun h => h hr)
   cases done
   ·repeat' (first|refine Sp.h ?_|refine Lk.r rfl ?_|refine Rf.mk rfl ?_|refine xA ?_|refine xB ?_|refine OpK.r rfl ?_|refine xP ?_|(refine Im.mk ?_;intro _)|(refine All.mk ?_;intro _)|refine xU ?_|refine xT ?_|refine xI ?_|refine Ce.r ?_|refine Ch.l ⟨rfl, rfl⟩ ?_|(apply Fk.r;focus repeat' first|infer_instance|constructor)|refine Rf.mk ⟨rfl, rfl⟩ ?_|refine Rf.mk ⟨rfl, rfl, rfl⟩ ?_|(apply Mp.lit;(focus repeat (first|exact MpL.nil|(apply MpL.cons;(focus rfl))|(apply MpL.inv;(focus repeat constructor);(focus infer_instance)))))|refine xD ?_|refine xO ?_|(apply Cl.p (less34_p _ _);(focus repeat' (first|exact Lend.nil|apply Lend.keep|fail))))
    all_goals exact PA.lp (i + 1, _, _, _) xE ⟨⟨hin, by simp only [List.length_append, List.length_singleton];omega, hq2⟩, by simp only;omega⟩
   ·repeat' (first|refine Sp.h ?_|refine Lk.r rfl ?_|refine Rf.mk rfl ?_|refine xA ?_|refine xB ?_|refine OpK.r rfl ?_|refine xP ?_|(refine Im.mk ?_;intro _)|(refine All.mk ?_;intro _)|refine xU ?_|refine xT ?_|refine xI ?_|refine Ce.r ?_|refine Ch.l ⟨rfl, rfl⟩ ?_|(apply Fk.r;focus repeat' first|infer_instance|constructor)|refine Rf.mk ⟨rfl, rfl⟩ ?_|refine Rf.mk ⟨rfl, rfl, rfl⟩ ?_|(apply Mp.lit;(focus repeat (first|exact MpL.nil|(apply MpL.cons;(focus rfl))|(apply MpL.inv;(focus repeat constructor);(focus infer_instance)))))|refine xD ?_|refine xO ?_|(apply Cl.p (less34_p _ _);(focus repeat' (first|fail))))
    all_goals exact PA.lp (i + 1, _, _, _) xE ⟨⟨hin, by simp only [List.length_append, List.length_singleton];omega, hq2⟩, by simp only;omega⟩
  ·cases done
   ·repeat' (first|refine Sp.h ?_|refine Lk.r rfl ?_|refine Rf.mk rfl ?_|refine xA ?_|refine xB ?_|refine OpK.r rfl ?_|refine xP ?_|(refine Im.mk ?_;intro _)|(refine All.mk ?_;intro _)|refine xU ?_|refine xT ?_|refine xI ?_|refine Ce.r ?_|refine Ch.l ⟨rfl, rfl⟩ ?_|(apply Fk.r;focus repeat' first|infer_instance|constructor)|refine Rf.mk ⟨rfl, rfl⟩ ?_|refine Rf.mk ⟨rfl, rfl, rfl⟩ ?_|(apply Mp.lit;(focus repeat (first|exact MpL.nil|(apply MpL.cons;(focus rfl))|(apply MpL.inv;(focus repeat constructor);(focus infer_instance)))))|refine xD ?_|refine xO ?_|(apply Cl.p (less34_p _ _);(focus repeat' (first|exact Lend.nil|apply Lend.keep|fail))))
    all_goals exact PA.lp (i + 1, _, _, _) xE ⟨⟨hin, by simp only [List.length_append, List.length_singleton];omega, hq2⟩, by simp only;omega⟩
   ·repeat' (first|refine Sp.h ?_|refine Lk.r rfl ?_|refine Rf.mk rfl ?_|refine xA ?_|refine xB ?_|refine OpK.r rfl ?_|refine xP ?_|(refine Im.mk ?_;intro _)|(refine All.mk ?_;intro _)|refine xU ?_|refine xT ?_|refine xI ?_|refine Ce.r ?_|refine Ch.l ⟨rfl, rfl⟩ ?_|(apply Fk.r;focus repeat' first|infer_instance|constructor)|refine Rf.mk ⟨rfl, rfl⟩ ?_|refine Rf.mk ⟨rfl, rfl, rfl⟩ ?_|(apply Mp.lit;(focus repeat (first|exact MpL.nil|(apply MpL.cons;(focus rfl))|(apply MpL.inv;(focus repeat constructor);(focus infer_instance)))))|refine xD ?_|refine xO ?_|(apply Cl.p (less34_p _ _);(focus repeat' (first|fail))))
    all_goals exact PA.lp (i + 1, _, _, _) xE ⟨⟨hin, by simp only [List.length_append, List.length_singleton];omega, hq2⟩, by simp only;omega⟩
 ·by_cases hr : y.rep = x.rep
  ·have hnn : y.num ≠ x.num := h12.resolve_left (fun h => h hr)
   cases done
   ·repeat' (first|refine Sp.h ?_|refine Lk.r rfl ?_|refine Rf.mk rfl ?_|refine xA ?_|refine xB ?_|refine OpK.r rfl ?_|refine xP ?_|(refine Im.mk ?_;intro _)|(refine All.mk ?_;intro _)|refine xU ?_|refine xT ?_|refine xI ?_|refine Ce.r ?_|refine Ch.l ⟨rfl, rfl⟩ ?_|(apply Fk.r;focus repeat' first|infer_instance|constructor)|refine Rf.mk ⟨rfl, rfl⟩ ?_|refine Rf.mk ⟨rfl, rfl, rfl⟩ ?_|(apply Mp.lit;(focus repeat (first|exact MpL.nil|(apply MpL.cons;(focus rfl))|(apply MpL.inv;(focus repeat constructor);(focus infer_instance)))))|refine xD ?_|refine xO ?_|(apply Cl.p (less34_p _ _);(focus repeat' (first|exact Lend.nil|apply Lend.keep|fail))))
    all_goals exact PA.lp (i + 1, _, _, _) xE ⟨⟨hin, by simp only [List.length_append, List.length_singleton];omega, hq2⟩, by simp only;omega⟩
   ·repeat' (first|refine Sp.h ?_|refine Lk.r rfl ?_|refine Rf.mk rfl ?_|refine xA ?_|refine xB ?_|refine OpK.r rfl ?_|refine xP ?_|(refine Im.mk ?_;intro _)|(refine All.mk ?_;intro _)|refine xU ?_|refine xT ?_|refine xI ?_|refine Ce.r ?_|refine Ch.l ⟨rfl, rfl⟩ ?_|(apply Fk.r;focus repeat' first|infer_instance|constructor)|refine Rf.mk ⟨rfl, rfl⟩ ?_|refine Rf.mk ⟨rfl, rfl, rfl⟩ ?_|(apply Mp.lit;(focus repeat (first|exact MpL.nil|(apply MpL.cons;(focus rfl))|(apply MpL.inv;(focus repeat constructor);(focus infer_instance)))))|refine xD ?_|refine xO ?_|(apply Cl.p (less34_p _ _);(focus repeat' (first|fail))))
    all_goals exact PA.lp (i + 1, _, _, _) xE ⟨⟨hin, by simp only [List.length_append, List.length_singleton];omega, hq2⟩, by simp only;omega⟩
  ·cases done
   ·repeat' (first|refine Sp.h ?_|refine Lk.r rfl ?_|refine Rf.mk rfl ?_|refine xA ?_|refine xB ?_|refine OpK.r rfl ?_|refine xP ?_|(refine Im.mk ?_;intro _)|(refine All.mk ?_;intro _)|refine xU ?_|refine xT ?_|refine xI ?_|refine Ce.r ?_|refine Ch.l ⟨rfl, rfl⟩ ?_|(apply Fk.r;focus repeat' first|infer_instance|constructor)|refine Rf.mk ⟨rfl, rfl⟩ ?_|refine Rf.mk ⟨rfl, rfl, rfl⟩ ?_|(apply Mp.lit;(focus repeat (first|exact MpL.nil|(apply MpL.cons;(focus rfl))|(apply MpL.inv;(focus repeat constructor);(focus infer_instance)))))|refine xD ?_|refine xO ?_|(apply Cl.p (less34_p _ _);(focus repeat' (first|exact Lend.nil|apply Lend.keep|fail))))
    all_goals exact PA.lp (i + 1, _, _, _) xE ⟨⟨hin, by simp only [List.length_append, List.length_singleton];omega, hq2⟩, by simp only;omega⟩
   ·repeat' (first|refine Sp.h ?_|refine Lk.r rfl ?_|refine Rf.mk rfl ?_|refine xA ?_|refine xB ?_|refine OpK.r rfl ?_|refine xP ?_|(refine Im.mk ?_;intro _)|(refine All.mk ?_;intro _)|refine xU ?_|refine xT ?_|refine xI ?_|refine Ce.r ?_|refine Ch.l ⟨rfl, rfl⟩ ?_|(apply Fk.r;focus repeat' first|infer_instance|constructor)|refine Rf.mk ⟨rfl, rfl⟩ ?_|refine Rf.mk ⟨rfl, rfl, rfl⟩ ?_|(apply Mp.lit;(focus repeat (first|exact MpL.nil|(apply MpL.cons;(focus rfl))|(apply MpL.inv;(focus repeat constructor);(focus infer_instance)))))|refine xD ?_|refine xO ?_|(apply Cl.p (less34_p _ _);(focus repeat' (first|fail))))
    all_goals exact PA.lp (i + 1, _, _, _) xE ⟨⟨hin, by simp only [List.length_append, List.length_singleton];omega, hq2⟩, by simp only;omega⟩
def LatK (a b : MkS) : Prop := b.time < a.time ∨ a.time = b.time ∧ b.rep < a.rep
instance (a b : MkS) : Decidable (LatK a b) := by unfold LatK;infer_instance
theorem later34_p (a b : MkS) : CallP Tryz.prog 280 [mA a, mA b] (bl (decide (LatK a b))) := by
 refine CallA.of pg ord280 Tryz.func280 rfl Tryz.ntmps280 Tryz.results280 rfl fun h0 G0 O0 => ?_
 repeat' (first|refine Sp.h ?_|refine Lk.r rfl ?_|refine Rf.mk rfl ?_|refine xA ?_|refine xB ?_|(refine Bd.mk ?_ ?_ <;> intro _)|(refine All.mk ?_;intro _)|refine xT ?_|refine xN ?_|fail)
 all_goals exact Fin.p rfl (vb (by first|exact (decide_eq_true (by unfold LatK;omega)).symm|exact (decide_eq_false (by unfold LatK;omega)).symm|exact decide_eq_decide.2 (by unfold LatK;omega)))
theorem updF_at {us : List UpS} {c : Int} {k : Nat} {u : UpS} (hu : us[k]? = some u) (hc : u.2.1 = c) (hd : ∀ w ∈ us.drop (k + 1), w.2.1 ≠ c) : updF us c = some u := by
 have hk := (List.getElem?_eq_some_iff.1 hu).1
 have h9 := List.drop_eq_getElem_cons hk
 rw [(List.getElem?_eq_some_iff.1 hu).2] at h9
 have hsp : us = us.take k ++ u :: us.drop (k + 1) := by rw [← h9, List.take_append_drop]
 unfold updF
 rw [hsp, List.reverse_append, List.reverse_cons, List.append_assoc, List.find?_append]
 have hn : (us.drop (k + 1)).reverse.find? (fun u => decide (u.2.1 = c)) = none := List.find?_eq_none.2 fun w hw => by
  simpa using hd w (List.mem_reverse.1 hw)
 rw [hn]
 simp [hc]
theorem updF_noneR {us : List UpS} {c : Int} (hd : ∀ w ∈ us, w.2.1 ≠ c) : updF us c = none :=
 List.find?_eq_none.2 fun w hw => by simpa using hd w (List.mem_reverse.1 hw)
def lastU (us : List UpS) (c : Int) : UpS := (updF us c).getD (0, 0, 0)
set_option maxHeartbeats 1000000 in
theorem last34_p (us : List UpS) (c : Int) (hl : us.length ≤ 1000000) : CallP Tryz.prog 247 [.sl 3 us updC, it c] (.tup [.agg (updC (lastU us c)), bl (updF us c).isSome]) := by
 refine CallA.of pg ord247 Tryz.func247 rfl Tryz.ntmps247 Tryz.results247 rfl fun h0 G0 O0 => ?_
 repeat' (first|refine Sp.h ?_|refine Lk.r rfl ?_|refine Rf.mk rfl ?_|(refine Im.mk ?_;intro _)|(refine All.mk ?_;intro _)|refine xN ?_|refine xO ?_|fail)
 rename_i b4 _
 refine CA.loop (fun k : Nat => ⟨[(0, .sl 3 us updC), (1, it c), (4, pm b4), (6, it ((k : Int) - 1))], [blkR b4 153 [it 0, it 0, it 0]]⟩) (fun k => k ≤ us.length ∧ ∀ w ∈ us.drop k, w.2.1 ≠ c) (fun k => k) us.length xE ⟨Nat.le_refl _, by simp⟩ ?_
 intro k ⟨hk, hd⟩
 cases k with
 | zero =>
  have hn := updF_noneR (us := us) (c := c) (by simpa using hd)
  rw [lastU, hn]
  repeat' (first|refine Sp.h ?_|refine Lk.r rfl ?_|refine Rf.mk rfl ?_|refine xB ?_|refine xT ?_|(apply SetAsk.r;focus repeat' constructor)|(apply Fk.r;focus repeat' first|infer_instance|constructor)|refine xN ?_|fail)
  exact Fin.p rfl rfl
 | succ k =>
  obtain ⟨⟨u1, u2, u3⟩, hu⟩ := get_of (l := us) (i := k) (by omega)
  have e1 : ((k + 1 : Nat) : Int) - 1 = (k : Nat) := by omega
  rw [e1]
  by_cases hc : u2 = c
  ·have hs := updF_at hu hc hd
   rw [lastU, hs]
   repeat' (first|refine Sp.h ?_|refine Lk.r rfl ?_|refine Rf.mk rfl ?_|refine xA ?_|refine xT ?_|refine xI ?_|refine Ch.l ⟨rfl, rfl⟩ ?_|(apply SetAsk.r;focus repeat' constructor)|refine xN ?_|fail)
   all_goals exact Fin.p rfl rfl
  ·repeat' (first|refine Sp.h ?_|refine Lk.r rfl ?_|refine Rf.mk rfl ?_|refine xA ?_|refine xB ?_|refine xI ?_|refine xO ?_|fail)
   all_goals exact PA.lp k xE ⟨⟨by omega, fun w hw => by
    have hk2 : k < us.length := by omega
    rw [List.drop_eq_getElem_cons hk2, (List.getElem?_eq_some_iff.1 hu).2] at hw
    rcases List.mem_cons.1 hw with rfl|hw
    ·exact hc
    ·exact hd w hw⟩, by omega⟩
noncomputable def refU (k : Int) (g : MgS) (u : UpS) (e : EvS) : MgS × Bool :=
 if k = 2 ∧ u.1 = 0 ∨ k = 3 ∧ u.1 = 1 then (if HasNm g.marks ⟨e.rep, e.num, e.time, 0⟩ then (⟨g.put, g.drop, []⟩, true) else (⟨g.put, g.drop, addL g.marks ⟨e.rep, e.num, e.time, 0⟩⟩, false))
 else if k = 2 ∧ u.1 = 1 then (⟨false, g.drop, fgK e.past g.marks⟩, false)
 else if k = 3 ∧ u.1 = 0 then (⟨true, false, fgK e.past g.marks⟩, false)
 else if k = 4 ∧ u.1 = 2 then (match g.marks with
  | [] => (⟨g.put, g.drop, [⟨e.rep, e.num, e.time, u.2.2⟩]⟩, false)
  | y :: r => (⟨g.put, g.drop, if LatK ⟨e.rep, e.num, e.time, u.2.2⟩ y then [⟨e.rep, e.num, e.time, u.2.2⟩] else y :: r⟩, false))
 else if k = 5 ∧ u.1 = 2 then (if HasNm (fgK e.past g.marks) ⟨e.rep, e.num, e.time, u.2.2⟩ then (⟨g.put, g.drop, []⟩, true) else (⟨g.put, g.drop, addL (fgK e.past g.marks) ⟨e.rep, e.num, e.time, u.2.2⟩⟩, false))
 else (g, false)
set_option maxHeartbeats 8000000 in
theorem update34_p (k : Int) (g : MgS) (u : UpS) (e : EvS) (hl : g.marks.length ≤ 10000) : CallP Tryz.prog 248 [it k, .agg (mgC g), .agg (updC u), evA' e] (.tup [.agg (mgC (refU k g u e).1), bl (refU k g u e).2]) := by
 obtain ⟨u1, u2, u3⟩ := u
 obtain ⟨gp, gd, gm⟩ := g
 simp only at hl
 have hun := unseen_p gm e.past (by omega)
 have hfl : (fgK e.past gm).length ≤ gm.length := List.length_filter_le _ _
 by_cases c1 : k = 2 ∧ u1 = 0 ∨ k = 3 ∧ u1 = 1
 ·by_cases hn : HasNm gm ⟨e.rep, e.num, e.time, 0⟩
  ·have hF : refU k ⟨gp, gd, gm⟩ (u1, u2, u3) e = (⟨gp, gd, []⟩, true) := by unfold refU;rw [if_pos c1, if_pos hn]
   rw [hF]
   have had := add34_h gm ⟨e.rep, e.num, e.time, 0⟩ hn (by omega)
   refine CallA.conv (a := .tup [.agg [bl gp, bl gd, .val (.slice none 0 0)], bl true]) (.tup (.cons (.agg (.cons (ALe.refl _) (.cons (ALe.refl _) (.cons ALe.nil .nil)))) (.cons (ALe.refl _) .nil))) ?_
   refine CallA.of pg ord248 Tryz.func248 rfl Tryz.ntmps248 Tryz.results248 rfl fun h0 G0 O0 => ?_
   rcases c1 with ⟨rfl, rfl⟩|⟨rfl, rfl⟩
   ·repeat' (first|refine Sp.h ?_|refine Lk.r rfl ?_|refine Rf.mk rfl ?_|refine xA ?_|(refine All.mk ?_;intro _)|refine xT ?_|refine Ch.l ⟨rfl, rfl⟩ ?_|refine xV ?_|(apply SetAsk.r;focus repeat' constructor)|(apply Fk.r;focus repeat' first|infer_instance|constructor)|refine xN ?_|(apply Cl.p (hun);(focus repeat' (first|exact Lend.nil|apply Lend.keep|fail)))|(apply Cl.p (had);(focus repeat' (first|exact Lend.nil|apply Lend.keep|fail))))
    all_goals exact Fin.p rfl rfl
   ·repeat' (first|refine Sp.h ?_|refine Lk.r rfl ?_|refine Rf.mk rfl ?_|refine xA ?_|refine xB ?_|(refine All.mk ?_;intro _)|refine xT ?_|refine Ch.l ⟨rfl, rfl⟩ ?_|refine xV ?_|(apply SetAsk.r;focus repeat' constructor)|(apply Fk.r;focus repeat' first|infer_instance|constructor)|refine xN ?_|(apply Cl.p (hun);(focus repeat' (first|exact Lend.nil|apply Lend.keep|fail)))|(apply Cl.p (had);(focus repeat' (first|exact Lend.nil|apply Lend.keep|fail))))
    all_goals exact Fin.p rfl rfl
  ·have hF : refU k ⟨gp, gd, gm⟩ (u1, u2, u3) e = (⟨gp, gd, addL gm ⟨e.rep, e.num, e.time, 0⟩⟩, false) := by unfold refU;rw [if_pos c1, if_neg hn]
   rw [hF]
   have had := add34_p gm ⟨e.rep, e.num, e.time, 0⟩ hn (by omega)
   refine CallA.of pg ord248 Tryz.func248 rfl Tryz.ntmps248 Tryz.results248 rfl fun h0 G0 O0 => ?_
   rcases c1 with ⟨rfl, rfl⟩|⟨rfl, rfl⟩
   ·repeat' (first|refine Sp.h ?_|refine Lk.r rfl ?_|refine Rf.mk rfl ?_|refine xA ?_|(refine All.mk ?_;intro _)|refine xT ?_|refine Ch.l ⟨rfl, rfl⟩ ?_|refine xV ?_|(apply SetAsk.r;focus repeat' constructor)|(apply Fk.r;focus repeat' first|infer_instance|constructor)|refine xN ?_|(apply Cl.p (hun);(focus repeat' (first|exact Lend.nil|apply Lend.keep|fail)))|(apply Cl.p (had);(focus repeat' (first|exact Lend.nil|apply Lend.keep|fail))))
    all_goals exact Fin.p rfl rfl
   ·repeat' (first|refine Sp.h ?_|refine Lk.r rfl ?_|refine Rf.mk rfl ?_|refine xA ?_|refine xB ?_|(refine All.mk ?_;intro _)|refine xT ?_|refine Ch.l ⟨rfl, rfl⟩ ?_|refine xV ?_|(apply SetAsk.r;focus repeat' constructor)|(apply Fk.r;focus repeat' first|infer_instance|constructor)|refine xN ?_|(apply Cl.p (hun);(focus repeat' (first|exact Lend.nil|apply Lend.keep|fail)))|(apply Cl.p (had);(focus repeat' (first|exact Lend.nil|apply Lend.keep|fail))))
    all_goals exact Fin.p rfl rfl
 by_cases c2 : k = 2 ∧ u1 = 1
 ·have hF : refU k ⟨gp, gd, gm⟩ (u1, u2, u3) e = (⟨false, gd, fgK e.past gm⟩, false) := by unfold refU;rw [if_neg c1, if_pos c2]
  rw [hF]
  obtain ⟨rfl, rfl⟩ := c2
  refine CallA.of pg ord248 Tryz.func248 rfl Tryz.ntmps248 Tryz.results248 rfl fun h0 G0 O0 => ?_
  repeat' (first|refine Sp.h ?_|refine Lk.r rfl ?_|refine Rf.mk rfl ?_|refine xA ?_|refine xB ?_|(refine All.mk ?_;intro _)|refine xT ?_|refine Ch.l ⟨rfl, rfl⟩ ?_|refine xV ?_|(apply SetAsk.r;focus repeat' constructor)|(apply Fk.r;focus repeat' first|infer_instance|constructor)|refine xN ?_|(apply Cl.p (hun);(focus repeat' (first|exact Lend.nil|apply Lend.keep|fail))))
  all_goals exact Fin.p rfl rfl
 by_cases c3 : k = 3 ∧ u1 = 0
 ·have hF : refU k ⟨gp, gd, gm⟩ (u1, u2, u3) e = (⟨true, false, fgK e.past gm⟩, false) := by unfold refU;rw [if_neg c1, if_neg c2, if_pos c3]
  rw [hF]
  obtain ⟨rfl, rfl⟩ := c3
  refine CallA.of pg ord248 Tryz.func248 rfl Tryz.ntmps248 Tryz.results248 rfl fun h0 G0 O0 => ?_
  repeat' (first|refine Sp.h ?_|refine Lk.r rfl ?_|refine Rf.mk rfl ?_|refine xA ?_|refine xB ?_|(refine All.mk ?_;intro _)|refine xT ?_|refine Ch.l ⟨rfl, rfl⟩ ?_|refine xV ?_|(apply SetAsk.r;focus repeat' constructor)|(apply Fk.r;focus repeat' first|infer_instance|constructor)|refine xN ?_|(apply Cl.p (hun);(focus repeat' (first|exact Lend.nil|apply Lend.keep|fail))))
  all_goals exact Fin.p rfl rfl
 by_cases c4 : k = 4 ∧ u1 = 2
 ·obtain ⟨rfl, rfl⟩ := c4
  cases gm with
  | nil =>
   have hF : refU 4 ⟨gp, gd, []⟩ (2, u2, u3) e = (⟨gp, gd, [⟨e.rep, e.num, e.time, u3⟩]⟩, false) := by unfold refU;rw [if_neg c1, if_neg c2, if_neg c3, if_pos ⟨rfl, rfl⟩]
   rw [hF]
   have hz : (((⟨gp, gd, []⟩ : MgS).marks.length : Nat) : Int) = 0 := rfl
   refine CallA.of pg ord248 Tryz.func248 rfl Tryz.ntmps248 Tryz.results248 rfl fun h0 G0 O0 => ?_
   (repeat' (first|(show CA _ _ (Code.region 17 _ _) _ _;apply Stopped.out)|refine Sp.h ?_|refine Lk.r rfl ?_|refine Rf.mk rfl ?_|refine xA ?_|refine xB ?_|refine OpK.r rfl ?_|(refine Im.mk ?_;intro _)|(refine All.mk ?_;intro _)|refine xT ?_|refine Ch.l ⟨rfl, rfl⟩ ?_|refine xV ?_|(apply SetAsk.r;focus repeat' constructor)|(apply Fk.r;focus repeat' first|infer_instance|constructor)|refine xN ?_|refine Rf.mk ⟨rfl, rfl, rfl⟩ ?_|refine xD ?_|(apply Cl.p (hun);(focus repeat' (first|exact Lend.nil|apply Lend.keep|fail)))));any_goals apply Stopped.mk
   all_goals
    rename_i b5 _ _ _ _ _ _
    apply CA.retype (m := [(⟨e.rep, e.num, e.time, u3⟩ : MkS)]) (g := mkC)
    focus (repeat constructor)
    focus rfl
    (apply CA.own;(focus (apply OX.blk (b := b5);(focus repeat constructor);(focus (repeat' (first|exact FX.nil|(apply FX.s1;(focus repeat constructor);(focus first|omega|(simp;done)|(simp;omega)))|apply FX.k)));(focus repeat constructor))))
    repeat' (first|refine Sp.h ?_|refine Lk.r rfl ?_|refine Rf.mk rfl ?_|refine xT ?_|refine Ch.l ⟨rfl, rfl⟩ ?_|(apply SetAsk.r;focus repeat' constructor)|refine xN ?_|fail)
    all_goals exact Fin.p rfl rfl
  | cons y r =>
   have hla := later34_p ⟨e.rep, e.num, e.time, u3⟩ y
   have hz : ¬ (((⟨gp, gd, y :: r⟩ : MgS).marks.length : Nat) : Int) = 0 := by simp;omega
   have hix : (⟨gp, gd, y :: r⟩ : MgS).marks[0]? = some y := rfl
   by_cases hy : LatK ⟨e.rep, e.num, e.time, u3⟩ y
   ·have hF : refU 4 ⟨gp, gd, y :: r⟩ (2, u2, u3) e = (⟨gp, gd, [⟨e.rep, e.num, e.time, u3⟩]⟩, false) := by unfold refU;rw [if_neg c1, if_neg c2, if_neg c3, if_pos ⟨rfl, rfl⟩];simp only;rw [if_pos hy]
    rw [hF]
    refine CallA.of pg ord248 Tryz.func248 rfl Tryz.ntmps248 Tryz.results248 rfl fun h0 G0 O0 => ?_
    (repeat' (first|(show CA _ _ (Code.region 17 _ _) _ _;apply Stopped.out)|refine Sp.h ?_|refine Lk.r rfl ?_|refine Rf.mk rfl ?_|refine xA ?_|refine xB ?_|refine OpK.r rfl ?_|(refine Im.mk ?_;intro _)|(refine All.mk ?_;intro _)|refine xT ?_|refine xI ?_|refine Ch.l ⟨rfl, rfl⟩ ?_|refine xV ?_|(apply SetAsk.r;focus repeat' constructor)|(apply Fk.r;focus repeat' first|infer_instance|constructor)|refine xN ?_|refine Rf.mk ⟨rfl, rfl, rfl⟩ ?_|refine xD ?_|(apply Cl.p (hun);(focus ((repeat' (first|exact Lend.nil|apply Lend.keep|fail));done)))|(apply Cl.p (hla);(focus ((repeat' (first|exact Lend.nil|apply Lend.keep|fail));done)))));any_goals apply Stopped.mk
    all_goals
     rename_i b5 _ _ _ _ _ _
     apply CA.retype (m := [(⟨e.rep, e.num, e.time, u3⟩ : MkS)]) (g := mkC)
     focus (repeat constructor)
     focus rfl
     (apply CA.own;(focus (apply OX.blk (b := b5);(focus repeat constructor);(focus (repeat' (first|exact FX.nil|(apply FX.s1;(focus repeat constructor);(focus first|omega|(simp;done)|(simp;omega)))|apply FX.k)));(focus repeat constructor))))
     repeat' (first|refine Sp.h ?_|refine Lk.r rfl ?_|refine Rf.mk rfl ?_|refine xT ?_|refine Ch.l ⟨rfl, rfl⟩ ?_|(apply SetAsk.r;focus repeat' constructor)|refine xN ?_|fail)
     all_goals exact Fin.p rfl rfl
   ·have hF : refU 4 ⟨gp, gd, y :: r⟩ (2, u2, u3) e = (⟨gp, gd, y :: r⟩, false) := by unfold refU;rw [if_neg c1, if_neg c2, if_neg c3, if_pos ⟨rfl, rfl⟩];simp only;rw [if_neg hy]
    rw [hF]
    refine CallA.of pg ord248 Tryz.func248 rfl Tryz.ntmps248 Tryz.results248 rfl fun h0 G0 O0 => ?_
    repeat' (first|refine Sp.h ?_|refine Lk.r rfl ?_|refine Rf.mk rfl ?_|refine xA ?_|refine xB ?_|refine OpK.r rfl ?_|(refine Im.mk ?_;intro _)|(refine All.mk ?_;intro _)|refine xT ?_|refine xI ?_|refine Ch.l ⟨rfl, rfl⟩ ?_|refine xV ?_|(apply SetAsk.r;focus repeat' constructor)|(apply Fk.r;focus repeat' first|infer_instance|constructor)|refine xN ?_|refine xD ?_|(apply Cl.p (hun);(focus repeat' (first|exact Lend.nil|apply Lend.keep|fail)))|(apply Cl.p (hla);(focus repeat' (first|exact Lend.nil|apply Lend.keep|fail))))
    all_goals exact Fin.p rfl rfl
 by_cases c5 : k = 5 ∧ u1 = 2
 ·by_cases hn : HasNm (fgK e.past gm) ⟨e.rep, e.num, e.time, u3⟩
  ·have hF : refU k ⟨gp, gd, gm⟩ (u1, u2, u3) e = (⟨gp, gd, []⟩, true) := by unfold refU;rw [if_neg c1, if_neg c2, if_neg c3, if_neg c4, if_pos c5, if_pos hn]
   rw [hF]
   have had := add34_h (fgK e.past gm) ⟨e.rep, e.num, e.time, u3⟩ hn (by omega)
   refine CallA.conv (a := .tup [.agg [bl gp, bl gd, .val (.slice none 0 0)], bl true]) (.tup (.cons (.agg (.cons (ALe.refl _) (.cons (ALe.refl _) (.cons ALe.nil .nil)))) (.cons (ALe.refl _) .nil))) ?_
   obtain ⟨rfl, rfl⟩ := c5
   refine CallA.of pg ord248 Tryz.func248 rfl Tryz.ntmps248 Tryz.results248 rfl fun h0 G0 O0 => ?_
   repeat' (first|refine Sp.h ?_|refine Lk.r rfl ?_|refine Rf.mk rfl ?_|refine xA ?_|refine xB ?_|(refine All.mk ?_;intro _)|refine xT ?_|refine Ch.l ⟨rfl, rfl⟩ ?_|refine xV ?_|(apply SetAsk.r;focus repeat' constructor)|(apply Fk.r;focus repeat' first|infer_instance|constructor)|refine xN ?_|(apply Cl.p (hun);(focus repeat' (first|exact Lend.nil|apply Lend.keep|fail)))|(apply Cl.p (had);(focus repeat' (first|exact Lend.nil|apply Lend.keep|fail))))
   all_goals exact Fin.p rfl rfl
  ·have hF : refU k ⟨gp, gd, gm⟩ (u1, u2, u3) e = (⟨gp, gd, addL (fgK e.past gm) ⟨e.rep, e.num, e.time, u3⟩⟩, false) := by unfold refU;rw [if_neg c1, if_neg c2, if_neg c3, if_neg c4, if_pos c5, if_neg hn]
   rw [hF]
   have had := add34_p (fgK e.past gm) ⟨e.rep, e.num, e.time, u3⟩ hn (by omega)
   obtain ⟨rfl, rfl⟩ := c5
   refine CallA.of pg ord248 Tryz.func248 rfl Tryz.ntmps248 Tryz.results248 rfl fun h0 G0 O0 => ?_
   repeat' (first|refine Sp.h ?_|refine Lk.r rfl ?_|refine Rf.mk rfl ?_|refine xA ?_|refine xB ?_|(refine All.mk ?_;intro _)|refine xT ?_|refine Ch.l ⟨rfl, rfl⟩ ?_|refine xV ?_|(apply SetAsk.r;focus repeat' constructor)|(apply Fk.r;focus repeat' first|infer_instance|constructor)|refine xN ?_|(apply Cl.p (hun);(focus repeat' (first|exact Lend.nil|apply Lend.keep|fail)))|(apply Cl.p (had);(focus repeat' (first|exact Lend.nil|apply Lend.keep|fail))))
   all_goals exact Fin.p rfl rfl
 have hF : refU k ⟨gp, gd, gm⟩ (u1, u2, u3) e = (⟨gp, gd, gm⟩, false) := by unfold refU;rw [if_neg c1, if_neg c2, if_neg c3, if_neg c4, if_neg c5]
 rw [hF]
 refine CallA.of pg ord248 Tryz.func248 rfl Tryz.ntmps248 Tryz.results248 rfl fun h0 G0 O0 => ?_
 repeat' (first|refine Sp.h ?_|refine Lk.r rfl ?_|refine Rf.mk rfl ?_|refine xA ?_|refine xB ?_|(refine Bd.mk ?_ ?_ <;> intro _)|(refine All.mk ?_;intro _)|refine xT ?_|refine Ch.l ⟨rfl, rfl⟩ ?_|(apply SetAsk.r;focus repeat' constructor)|(apply Fk.r;focus repeat' first|infer_instance|constructor)|refine xN ?_|(apply Cl.p (hun);(focus repeat' (first|exact Lend.nil|apply Lend.keep|fail))))
 all_goals exact Fin.p rfl rfl
end Go.Proofs.YtmllihbhphnolaaGreat
namespace Go.Proofs.YtmllihbhphnolaaGreat
open Go Go.CF
set_option maxRecDepth 20000
theorem addL_ins {l : List MkS} {x : MkS} (hs : l.Pairwise LtK) (hn : ¬ HasNm l x) : addL l x = insK l x := by
 obtain ⟨h1, h2⟩ := addL_sk hs hn
 obtain ⟨h3, h4⟩ := ins_lt hs hn
 exact pw_uniq LtK_asymm _ _ h1 h3 fun y => (h2 y).trans (h4 y).symm
theorem insK_len (l : List MkS) (x : MkS) : (insK l x).length = l.length + 1 := by
 have := posK_le l x
 unfold insK
 simp
 omega
theorem cmp2_lat (a b : MkS) : cmp2 a b < 0 ↔ LatK b a := by
 unfold cmp2 orI cmpI LatK
 by_cases h1 : a.time < b.time
 ·simp [h1]
 ·by_cases h2 : b.time < a.time
  ·simp [h1, h2]
   try omega
  ·by_cases h3 : a.rep < b.rep
   ·simp [h1, h2, h3]
    try omega
   ·by_cases h4 : b.rep < a.rep
    ·simp [h1, h2, h3, h4]
     try omega
    ·simp [h1, h2, h3, h4]
structure RefC (a : MgS × Bool) (b : Int × MgS) : Prop where
 ag : a.2 = true ↔ b.1 = 6
 lg : 1024 < a.1.marks.length ↔ b.1 = 8
 ok : b.1 = 0 → a.1 = b.2
 cs : b.1 = 0 ∨ b.1 = 6 ∨ b.1 = 8
theorem ref_add {l : List MkS} {x : MkS} (p d : Bool) (hs : l.Pairwise LtK) (hl : l.length ≤ 1024) :
  RefC (if HasNm l x then (⟨p, d, []⟩, true) else (⟨p, d, addL l x⟩, false)) ((addF l x).1, ⟨p, d, (addF l x).2⟩) := by
 unfold addF
 by_cases h : HasNm l x
 ·rw [if_pos h, if_pos h]
  exact ⟨by simp, by simp, by simp, by simp⟩
 ·rw [if_neg h, if_neg h, addL_ins hs h]
  have hlen := insK_len l x
  by_cases h2 : 1024 ≤ l.length
  ·rw [if_pos h2]
   exact ⟨by simp, by simp only [hlen];exact ⟨fun _ => trivial, fun _ => by omega⟩, by simp, by simp⟩
  ·rw [if_neg h2]
   exact ⟨by simp, by simp only [hlen];constructor <;> intro h9 <;> first|omega|(cases h9), by simp, by simp⟩
theorem ref_cell {t : TblS} {g : MgS} (u : UpS) (e : EvS) (hv : ValG t g) : RefC (refU t.kind g u e) (cellF e t (some u) g) := by
 have hg := hv.good.1
 have hl : g.marks.length ≤ 1024 := hv.1.2.2.2
 have hf : (fgK e.past g.marks).length ≤ g.marks.length := List.length_filter_le _ _
 have hfs : (fgK e.past g.marks).Pairwise LtK := List.Pairwise.filter _ hg
 have hk : ∀ v : Int, ¬ isReg t.kind → (if isReg t.kind then v else 0) = 0 := fun v h => if_neg h
 unfold refU cellF
 simp only
 by_cases c1 : t.kind = 2 ∧ u.1 = 0 ∨ t.kind = 3 ∧ u.1 = 1
 ·rw [if_pos c1, if_pos c1, hk _ (by unfold isReg;omega)]
  exact ref_add g.put g.drop hg hl
 rw [if_neg c1, if_neg c1]
 by_cases c2 : t.kind = 2 ∧ u.1 = 1
 ·rw [if_pos c2, if_pos c2]
  exact ⟨by simp, by simp only;constructor <;> intro h9 <;> first|omega|(cases h9), by simp, by simp⟩
 rw [if_neg c2, if_neg c2]
 by_cases c3 : t.kind = 3 ∧ u.1 = 0
 ·rw [if_pos c3, if_pos c3]
  exact ⟨by simp, by simp only;constructor <;> intro h9 <;> first|omega|(cases h9), by simp, by simp⟩
 rw [if_neg c3, if_neg c3]
 by_cases c4 : t.kind = 4 ∧ u.1 = 2
 ·rw [if_pos c4, if_pos c4, if_pos (show isReg t.kind from .inl c4.1)]
  have h1 : ¬ 1 < g.marks.length := fun h => hv.1.2.2.1 ⟨c4.1, h⟩
  obtain ⟨gp, gd, gm⟩ := g
  cases gm with
  | nil =>
   have hn : ¬ HasNm ([] : List MkS) ⟨e.rep, e.num, e.time, u.2.2⟩ := fun ⟨y, hy, _⟩ => by cases hy
   have ha : addF [] (⟨e.rep, e.num, e.time, u.2.2⟩ : MkS) = (0, [⟨e.rep, e.num, e.time, u.2.2⟩]) := by
    unfold addF
    rw [if_neg hn, if_neg (by simp)]
    simp [insK, posK, idxN]
   simp only [lastF, ha]
   exact ⟨by simp, by simp, by simp, by simp⟩
  | cons y r =>
   have hr : r = [] := by cases r with
    | nil => rfl
    | cons a r => simp at h1
   subst hr
   have hc := cmp2_lat y ⟨e.rep, e.num, e.time, u.2.2⟩
   simp only [lastF]
   by_cases hy : LatK ⟨e.rep, e.num, e.time, u.2.2⟩ y
   ·rw [if_pos hy, if_pos (hc.2 hy)]
    exact ⟨by simp, by simp, by simp, by simp⟩
   ·rw [if_neg hy, if_neg (fun h => hy (hc.1 h))]
    exact ⟨by simp, by simp, by simp, by simp⟩
 rw [if_neg c4, if_neg c4]
 by_cases c5 : t.kind = 5 ∧ u.1 = 2
 ·rw [if_pos c5, if_pos c5, if_pos (show isReg t.kind from .inr c5.1)]
  exact ref_add g.put g.drop hfs (by omega)
 rw [if_neg c5, if_neg c5]
 exact ⟨by simp, by simp only;constructor <;> intro h9 <;> first|omega|(cases h9), by simp, by simp⟩
end Go.Proofs.YtmllihbhphnolaaGreat
namespace Go.Proofs.YtmllihbhphnolaaGreat
open Go Go.CF
set_option maxRecDepth 20000
theorem evalid32_p (m : ModS) (n : Int) (e : EvS) : CallP Tryz.prog 111 [mdl m, it n, evA' e] (bl (decide (EvV m n e))) := by
 have hf := formedR_p e
 refine CallA.of pg ord111 Tryz.func111 rfl Tryz.ntmps111 Tryz.results111 rfl fun h0 G0 O0 => ?_
 repeat' (first|refine Sp.h ?_|refine Lk.r rfl ?_|refine Rf.mk rfl ?_|refine xA ?_|refine xB ?_|(refine Bd.mk ?_ ?_ <;> intro _)|(refine Im.mk ?_;intro _)|(refine All.mk ?_;intro _)|refine xT ?_|refine Ch.l ⟨rfl, rfl⟩ ?_|refine xN ?_|(apply Cl.p (hf);(focus repeat' (first|exact Lend.nil|apply Lend.keep|fail))))
 all_goals refine Fin.p rfl (vb ?_)
 all_goals first
  | exact (decide_eq_false (fun h => by
    obtain ⟨h1, h2, h3⟩ := h
    first
     | exact absurd h1 (by assumption)
     | omega)).symm
  | exact (decide_eq_true ⟨by assumption, by omega, by omega⟩).symm
  | exact decide_eq_decide.2 ⟨fun h => ⟨by assumption, by omega, by omega⟩, fun h => by
    obtain ⟨h1, h2, h3⟩ := h
    omega⟩
structure RInv (l : List MgS) (C : List (Int × MgS)) (i : Nat) (out : List MgS) (ex lg : Bool) : Prop where
 le : i ≤ l.length
 len : out.length = l.length
 rest : out.drop i = l.drop i
 ex : ex = true ↔ ∃ p ∈ C.take i, p.1 = 6
 lg : lg = true ↔ ∃ p ∈ C.take i, p.1 = 8
 ok : (∀ p ∈ C.take i, p.1 = 0) → out.take i = (C.take i).map (·.2)
 cs : ∀ p ∈ C.take i, p.1 = 0 ∨ p.1 = 6 ∨ p.1 = 8
theorem RInv.zero (l : List MgS) (C : List (Int × MgS)) : RInv l C 0 l false false := ⟨Nat.zero_le _, rfl, rfl, by simp, by simp, by simp, by simp⟩
theorem RInv.step {l : List MgS} {C : List (Int × MgS)} {i : Nat} {out : List MgS} {ex lg : Bool} {c : Int × MgS} {x : MgS × Bool} (h : RInv l C i out ex lg) (hi : i < l.length) (hc : C[i]? = some c) (hr : RefC x c) :
  RInv l C (i + 1) (out.set i x.1) (ex || x.2) (lg || decide (1024 < x.1.marks.length)) := by
 have ht : C.take (i + 1) = C.take i ++ [c] := by rw [List.take_add_one, hc];rfl
 refine ⟨hi, by rw [List.length_set];exact h.len, ?_, ?_, ?_, fun h0 => ?_, fun p hp => ?_⟩
 ·rw [List.drop_set_of_lt (by omega)]
  have := congrArg (List.drop 1) h.rest
  simpa [List.drop_drop, Nat.add_comm] using this
 ·rw [ht, Bool.or_eq_true, h.ex, hr.ag]
  simp only [List.mem_append, List.mem_singleton]
  exact ⟨fun h9 => h9.elim (fun ⟨p, h1, h2⟩ => ⟨p, .inl h1, h2⟩) fun h9 => ⟨c, .inr rfl, h9⟩, fun ⟨p, h1, h2⟩ => h1.elim (fun h1 => .inl ⟨p, h1, h2⟩) fun h1 => .inr (h1 ▸ h2)⟩
 ·rw [ht, Bool.or_eq_true, h.lg, decide_eq_true_eq, hr.lg]
  simp only [List.mem_append, List.mem_singleton]
  exact ⟨fun h9 => h9.elim (fun ⟨p, h1, h2⟩ => ⟨p, .inl h1, h2⟩) fun h9 => ⟨c, .inr rfl, h9⟩, fun ⟨p, h1, h2⟩ => h1.elim (fun h1 => .inl ⟨p, h1, h2⟩) fun h1 => .inr (h1 ▸ h2)⟩
 ·rw [ht] at h0 ⊢
  have h1 := h.ok fun p hp => h0 p (List.mem_append.2 (.inl hp))
  have h2 := hr.ok (h0 c (by simp))
  rw [List.take_add_one, List.getElem?_set, if_pos rfl, if_pos (by rw [h.len];exact hi), List.map_append, ← h1, h2]
  simp only [Option.toList_some, List.map_cons, List.map_nil]
  rw [List.take_set_of_le (Nat.le_refl i)]
 ·rw [ht] at hp
  rcases List.mem_append.1 hp with hp|hp
  ·exact h.cs p hp
  ·rw [List.mem_singleton.1 hp];exact hr.cs
theorem RInv.done {l : List MgS} {C : List (Int × MgS)} {out : List MgS} {ex lg : Bool} (h : RInv l C l.length out ex lg) (hC : C.length = l.length) :
  gatherF C = if ex = true then (6, []) else if lg = true then (8, []) else (0, out) := by
 have hct : C.take l.length = C := List.take_of_length_le (by omega)
 have h1 := h.ex;have h2 := h.lg;have h3 := h.ok;have h4 := h.cs
 rw [hct] at h1 h2 h3 h4
 rw [List.take_of_length_le (by have := h.len;omega)] at h3
 by_cases he : ex = true
 ·rw [if_pos he]
  obtain ⟨p, hp, hp6⟩ := h1.1 he
  unfold gatherF
  cases hf : C.find? fun p => decide (p.1 ≠ 0 ∧ p.1 ≠ 8) with
  | none =>
   have := List.find?_eq_none.1 hf p hp
   simp [hp6] at this
  | some q =>
   have hq := List.find?_some hf
   have hm := List.mem_of_find?_eq_some hf
   rcases h4 q hm with h5|h5|h5
   ·simp [h5] at hq
   ·simp only [h5]
   ·simp [h5] at hq
 ·rw [if_neg he]
  have hn6 : ∀ p ∈ C, p.1 ≠ 6 := fun p hp h9 => he (h1.2 ⟨p, hp, h9⟩)
  rw [gather_end fun p hp => by
   rcases h4 p hp with h5|h5|h5
   ·exact .inl h5
   ·exact absurd h5 (hn6 p hp)
   ·exact .inr h5]
  by_cases hl : lg = true
  ·rw [if_pos hl, if_pos (h2.1 hl)]
  ·rw [if_neg hl, if_neg (fun h9 => hl (h2.2 h9))]
   rw [h3 fun p hp => by
    rcases h4 p hp with h5|h5|h5
    ·exact h5
    ·exact absurd h5 (hn6 p hp)
    ·exact absurd (h2.2 ⟨p, hp, h5⟩) hl]
end Go.Proofs.YtmllihbhphnolaaGreat
namespace Go.Proofs.YtmllihbhphnolaaGreat
open Go Go.CF
set_option maxRecDepth 20000
set_option maxHeartbeats 8000000 in
theorem apply34_p (m : ModS) (l : List MgS) (e : EvS) (hm : MOK m) : CallP Tryz.prog 181 [mdl m, mgs l, evA' e] (.tup [mgs (applyF m l e).2, it (applyF m l e).1]) := by
 have hva := validR34_p m l hm.lay
 have hev := evalid32_p m (e.past.length : Nat) e
 have hbad : ∀ c : Int, CallP Tryz.prog 181 [mdl m, mgs l, evA' e] (.tup [.val (.slice none 0 0), it c]) → CallP Tryz.prog 181 [mdl m, mgs l, evA' e] (.tup [mgs [], it c]) := fun c h =>
  CallA.conv (.tup (.cons ALe.nil (.cons (ALe.refl _) .nil))) h
 by_cases hv : ValL (mrgF m) l ∧ EvV m (e.past.length : Nat) e
 rotate_left
 ·have hF : applyF m l e = (1, []) := if_pos hv
  rw [hF]
  refine hbad 1 ?_
  refine CallA.of pg ord181 Tryz.func181 rfl Tryz.ntmps181 Tryz.results181 rfl fun h0 G0 O0 => ?_
  by_cases h1 : ValL (mrgF m) l
  ·have h2 : ¬ EvV m (e.past.length : Nat) e := fun h => hv ⟨h1, h⟩
   repeat' (first|refine Sp.h ?_|refine Lk.r rfl ?_|refine Rf.mk rfl ?_|refine xA ?_|refine xB ?_|(refine Im.mk ?_;intro _)|(refine All.mk ?_;intro _)|refine xT ?_|refine Ch.l ⟨rfl, rfl⟩ ?_|refine xN ?_|(apply Cl.p (hva);(focus repeat' (first|exact Lend.nil|apply Lend.keep|fail)))|(apply Cl.p (hev);(focus repeat' (first|exact Lend.nil|apply Lend.keep|fail))))
   all_goals exact Fin.p rfl rfl
  ·repeat' (first|refine Sp.h ?_|refine Lk.r rfl ?_|refine Rf.mk rfl ?_|refine xB ?_|(refine All.mk ?_;intro _)|refine xT ?_|refine Ch.l ⟨rfl, rfl⟩ ?_|refine xN ?_|(apply Cl.p (hva);(focus repeat' (first|exact Lend.nil|apply Lend.keep|fail)))|(apply Cl.p (hev);(focus repeat' (first|exact Lend.nil|apply Lend.keep|fail))))
   all_goals exact Fin.p rfl rfl
 obtain ⟨h1, h2⟩ := hv
 have hl : l.length ≤ 20 := by have := h1.1;have := hm.mrg;omega
 have hce := merged32_p m hm.lay
 by_cases hk : e.kind = 0
 rotate_left
 ·have hF : applyF m l e = (0, l) := by rw [applyF, if_neg (fun h => h ⟨h1, h2⟩), if_pos hk]
  rw [hF]
  refine CallA.fzt (T := 123) (show l.length ≤ _ by omega) ?_
  refine CallA.of pg ord181 Tryz.func181 rfl Tryz.ntmps181 Tryz.results181 rfl fun h0 G0 O0 => ?_
  repeat' (first|refine Sp.h ?_|refine Lk.r rfl ?_|refine Rf.mk rfl ?_|refine xA ?_|refine xB ?_|refine xP ?_|(refine Im.mk ?_;intro _)|(refine All.mk ?_;intro _)|refine xU ?_|refine xT ?_|refine Ce.l rfl ?_|refine Ch.l ⟨rfl, rfl⟩ ?_|(apply Fk.r;focus repeat' first|infer_instance|constructor)|refine xN ?_|refine Rf.mk ⟨rfl, rfl⟩ ?_|refine Rf.mk ⟨rfl, rfl, rfl⟩ ?_|refine Mp.same ?_|(apply Cl.p (hva);(focus repeat' (first|exact Lend.nil|apply Lend.keep|fail)))|(apply Cl.p (hev);(focus repeat' (first|exact Lend.nil|apply Lend.keep|fail))))
  exact ⟨_, _, .tup (.same (.same (.z))), _, rfl, rfl⟩
 have hF : applyF m l e = gatherF (cellsF (mrgF m) l (usF m e) e) := by rw [applyF, if_neg (fun h => h ⟨h1, h2⟩), if_neg (fun h => h hk)]
 rw [hF]
 have ha1 : 0 ≤ e.action := act_rng h2.1 hk
 have ha2 := h2.2.2 hk
 obtain ⟨a, ha⟩ := get_of (l := m.acts) (i := e.action.toNat) (by omega)
 obtain ⟨n, hn⟩ : ∃ n : Nat, e.action = n := ⟨e.action.toNat, by omega⟩
 have hus : usF m e = a.eff.updates := by rw [usF, ha]
 rw [hn] at ha
 rw [hus]
 have ha3 : m.acts[n]? = some a := by simpa using ha
 have hul := (hm.eff a (List.mem_of_getElem? ha3)).ul
 obtain ⟨C, hC⟩ : ∃ C, C = cellsF (mrgF m) l a.eff.updates e := ⟨_, rfl⟩
 have hCl : C.length = l.length := by rw [hC];exact cellsF_len
 rw [← hC]
 have key : CallA Tryz.prog 181 [mdl m, mgs l, evA' e] [] fun r own => ∃ out ex lg, RInv l C l.length out ex lg ∧ (if ex = true then r = .tup [.val (.slice none 0 0), it 6] ∧ own = [] else if lg = true then r = .tup [.val (.slice none 0 0), it 8] ∧ own = [] else ∃ v, r = .tup [.ow v, it 0] ∧ own = [arrR v 123 3 out mgC]) := by
  refine CallA.of pg ord181 Tryz.func181 rfl Tryz.ntmps181 Tryz.results181 rfl fun h0 G0 O0 => ?_
  repeat' (first|refine Sp.h ?_|refine Lk.r rfl ?_|refine Rf.mk rfl ?_|refine xA ?_|refine xP ?_|(refine Im.mk ?_;intro _)|(refine All.mk ?_;intro _)|refine xU ?_|refine xT ?_|refine Ce.l rfl ?_|refine Ch.l ⟨rfl, rfl⟩ ?_|(apply Fk.r;focus repeat' first|infer_instance|constructor)|refine Rf.mk ⟨rfl, rfl⟩ ?_|refine Rf.mk ⟨rfl, rfl, rfl⟩ ?_|refine Mp.same ?_|(apply Cl.p (hva);(focus ((repeat' (first|exact Lend.nil|apply Lend.keep|fail));done)))|(apply Cl.p (hev);(focus ((repeat' (first|exact Lend.nil|apply Lend.keep|fail));done)))|(apply Cl.p (hce);(focus ((repeat' (first|exact Lend.nil|apply Lend.keep|fail));done))))
  rename_i b3 b5 _ _ v
  refine CA.loop (fun x : Nat × Value × List MgS × Bool × Bool => ⟨[(3, pm b3), (5, pm b5), (8, .ow x.2.1), (9, tbls (mrgF m)), (10, bl x.2.2.2.1), (11, bl x.2.2.2.2), (12, it x.1)], [mR b3 m, blkR b5 37 (evC e), arrR x.2.1 123 3 x.2.2.1 mgC]⟩)
   (fun x => RInv l C x.1 x.2.2.1 x.2.2.2.1 x.2.2.2.2) (fun x => l.length - x.1) (0, v, l, false, false) xE (RInv.zero l C) ?_
  rintro ⟨i, w, out, ex, lg⟩ hI
  simp only at hI
  simp only
  have hol := hI.len
  have hoi := hI.le
  by_cases hin : i < l.length
  rotate_left
  ·have hie : i = l.length := by omega
   subst hie
   cases ex
   ·cases lg
    ·repeat' (first|refine Sp.h ?_|refine Lk.r rfl ?_|refine Rf.mk rfl ?_|refine xB ?_|refine xU ?_|refine xN ?_|fail)
     exact ⟨_, _, .tup (.same (.same (.z))), out, false, false, hI, w, rfl, rfl⟩
    ·repeat' (first|refine Sp.h ?_|refine Lk.r rfl ?_|refine Rf.mk rfl ?_|refine xB ?_|refine xU ?_|refine xN ?_|fail)
     exact ⟨_, _, .tup (.same (.same (.z))), out, false, true, hI, rfl, rfl⟩
   ·repeat' (first|refine Sp.h ?_|refine Lk.r rfl ?_|refine Rf.mk rfl ?_|refine xB ?_|refine xU ?_|refine xN ?_|fail)
    exact ⟨_, _, .tup (.same (.same (.z))), out, true, lg, hI, rfl, rfl⟩
  obtain ⟨g, hg⟩ := get_of hin
  obtain ⟨t, ht⟩ := get_of (l := mrgF m) (i := i) (by have := h1.1;omega)
  have hvg := h1.2 i t g ht hg
  have hog : out[i]? = some g := by
   have := congrArg (fun x => x[0]?) hI.rest
   simpa [List.getElem?_drop, hg] using this
  have hCi : C[i]? = some (cellF e t (updF a.eff.updates i) g) := by rw [hC];exact cellsF_at ht hg
  have hla := last34_p a.eff.updates i (by omega)
  have hml : g.marks.length ≤ 1024 := hvg.1.2.2.2
  cases hu : updF a.eff.updates i with
  | none =>
   rw [lastU, hu] at hla
   rw [hu] at hCi
   have hst := hI.step (x := (g, false)) hin hCi ⟨by simp [cellF], by simp only [cellF];constructor <;> intro h9 <;> first|omega|(cases h9), by simp [cellF], by simp [cellF]⟩
   rw [set_same hog, Bool.or_false, decide_eq_false (show ¬ 1024 < ((g, false) : MgS × Bool).1.marks.length by simp only;omega), Bool.or_false] at hst
   repeat' (first|refine Sp.h ?_|refine Lk.r rfl ?_|refine Rf.mk rfl ?_|refine xA ?_|refine xB ?_|(refine All.mk ?_;intro _)|refine xU ?_|refine xT ?_|(apply Ix.r;(focus assumption);(focus omega))|(apply SetAsk.r;focus repeat' constructor)|refine xN ?_|refine xO ?_|(apply Cl.p (hla);(focus repeat' (first|exact Lend.nil|apply Lend.keep|fail))))
   all_goals exact PA.lp (i + 1, w, out, ex, lg) xE ⟨hst, by simp only;omega⟩
  | some u =>
   have hup := update34_p t.kind g u e (by omega)
   have hrc := ref_cell u e hvg
   rw [lastU, hu] at hla
   rw [hu] at hCi
   have hst := hI.step hin hCi hrc
   obtain ⟨x, hx⟩ : ∃ x, x = refU t.kind g u e := ⟨_, rfl⟩
   rw [← hx] at hst hup
   obtain ⟨x1, x2⟩ := x
   simp only at hst hup
   have hd : decide (1024 < x1.marks.length) = decide ((1024 : Int) < (x1.marks.length : Nat)) := decide_eq_decide.2 (by omega)
   rw [hd] at hst
   cases ex <;> cases lg <;> cases x2
   all_goals
    simp only [Bool.or_true, Bool.or_false, Bool.true_or, Bool.false_or] at hst
    repeat' (first|refine Sp.h ?_|refine Lk.r rfl ?_|refine Rf.mk rfl ?_|refine xA ?_|refine OpK.r rfl ?_|(refine Im.mk ?_;intro _)|(refine All.mk ?_;intro _)|refine xU ?_|refine xT ?_|refine xI ?_|(apply Ix.r;(focus assumption);(focus omega))|refine xJ ?_|refine Ch.l ⟨rfl, rfl⟩ ?_|(apply SetAsk.r;focus repeat' constructor)|refine xN ?_|refine Up.r rfl ?_|refine xD ?_|exact trivial|apply RA'.both|refine xO ?_|(apply Cl.p (hla);(focus repeat' (first|exact Lend.nil|apply Lend.keep|fail)))|(apply Cl.p (hup);(focus repeat' (first|exact Lend.nil|apply Lend.keep|fail))))
    all_goals exact PA.lp (i + 1, w, out.set i x1, _, _) xE ⟨hst, by simp only;omega⟩
 refine CallA.fx key ?_
 rintro r own ⟨out, ex, lg, hI, hr⟩
 have hg := hI.done hCl
 rw [hg]
 cases ex
 ·cases lg
  ·obtain ⟨v, rfl, rfl⟩ := hr
   have hol := hI.len
   exact .tup (.sl .here (by omega) (FX.refl _) (.le (ALe.refl _) .nil)) .nil
  ·obtain ⟨rfl, rfl⟩ := hr
   exact .tup (.le ALe.nil (.le (ALe.refl _) .nil)) .nil
 ·obtain ⟨rfl, rfl⟩ := hr
  exact .tup (.le ALe.nil (.le (ALe.refl _) .nil)) .nil
end Go.Proofs.YtmllihbhphnolaaGreat
namespace Go.Proofs.YtmllihbhphnolaaGreat
open Go Go.CF
set_option maxRecDepth 20000
set_option maxHeartbeats 4000000 in
theorem state32_p (m : ModS) (ld : List Int) (l : List EvS) (hm : MOK m) (hl : ld.length = strF m) (hl2 : l.length ≤ 1000) (h : ∀ e ∈ l, EvV m (e.past.length : Nat) e) : CallP Tryz.prog 180 [mdl m, ints ld, evs l] (.tup [ints (l.foldl (addE m) ld), it 0]) := by
 have hstr := hm.str
 have hst := strict32_p m hm.lay
 refine CallA.fzt (T := 3) (by rw [foldE_len];omega) ?_
 refine CallA.of pg ord180 Tryz.func180 rfl Tryz.ntmps180 Tryz.results180 rfl fun h0 G0 O0 => ?_
 repeat' (first|refine Sp.h ?_|refine Lk.r rfl ?_|refine Rf.mk rfl ?_|refine xA ?_|refine xP ?_|(refine Im.mk ?_;intro _)|(refine All.mk ?_;intro _)|refine xU ?_|refine xT ?_|refine Ce.l rfl ?_|refine Ch.l ⟨rfl, rfl⟩ ?_|(apply Fk.r;focus repeat' first|infer_instance|constructor)|refine Rf.mk ⟨rfl, rfl⟩ ?_|refine Rf.mk ⟨rfl, rfl, rfl⟩ ?_|refine Mp.same ?_|(apply Cl.p (hst);(focus repeat' (first|exact Lend.nil|apply Lend.keep|fail))))
 rename_i b3 _ _ u
 refine CA.loop (fun i : Nat => ⟨[(2, evs l), (3, pm b3), (8, .ow u), (9, it i)], [mR b3 m, arrR u 3 1 ((l.take i).foldl (addE m) ld) intC]⟩) (fun i => i ≤ l.length) (fun i => l.length - i) 0 xE (Nat.zero_le _) ?_
 intro i hi
 by_cases hin : i < l.length
 rotate_left
 ·have hie : i = l.length := by omega
  subst hie
  rw [List.take_length]
  repeat' (first|refine Sp.h ?_|refine Lk.r rfl ?_|refine Rf.mk rfl ?_|refine xB ?_|(refine Im.mk ?_;intro _)|refine xN ?_|fail)
  exact ⟨_, _, .tup (.same (.same (.z))), _, rfl, rfl⟩
 obtain ⟨e, he⟩ := get_of hin
 have hev := h e (List.mem_of_getElem? he)
 have hva := evalid32_p m (e.past.length : Nat) e
 rw [decide_eq_true hev] at hva
 have hsl : ((l.take i).foldl (addE m) ld).length = strF m := by rw [foldE_len];exact hl
 have hsu := foldE_succ (m := m) he ld
 obtain ⟨s, hs⟩ : ∃ s, s = (l.take i).foldl (addE m) ld := ⟨_, rfl⟩
 rw [← hs] at hsl hsu ⊢
 by_cases hk : e.kind = 0
 rotate_left
 ·have hadd : addE m s e = s := if_neg hk
  rw [hadd] at hsu
  repeat' (first|refine Sp.h ?_|refine Lk.r rfl ?_|refine Rf.mk rfl ?_|refine xA ?_|refine xB ?_|refine OpK.r rfl ?_|(refine Im.mk ?_;intro _)|refine xT ?_|refine xI ?_|refine Ch.l ⟨rfl, rfl⟩ ?_|refine xD ?_|refine xO ?_|(apply Cl.p (hva);(focus repeat' (first|exact Lend.nil|apply Lend.keep|fail))))
  rw [← hsu]
  all_goals exact PA.lp (i + 1) xE ⟨hin, by omega⟩
 have hact := act_rng hev.1 hk
 have hact2 := hev.2.2 hk
 obtain ⟨a, ha⟩ := get_of (l := m.acts) (i := e.action.toNat) (by omega)
 have hd := dltF_at ha
 have heo := hm.eff a (List.mem_of_getElem? ha)
 have hadd : addE m s e = addD s a.eff.delta := by rw [addE, if_pos hk, hd]
 repeat' (first|refine Sp.h ?_|refine Lk.r rfl ?_|refine Rf.mk rfl ?_|refine xA ?_|refine OpK.r rfl ?_|(refine Im.mk ?_;intro _)|refine xT ?_|refine xI ?_|(apply Ix.r;(focus assumption);(focus omega))|refine Ch.l ⟨rfl, rfl⟩ ?_|refine xD ?_|(apply Cl.p (hva);(focus repeat' (first|exact Lend.nil|apply Lend.keep|fail))))
 refine CA.loop (fun k : Nat => ⟨[(2, evs l), (3, pm b3), (8, .ow u), (9, it i), (10, terms a.eff.delta), (11, it k)], [mR b3 m, arrR u 3 1 (addD s (a.eff.delta.take k)) intC]⟩) (fun k => k ≤ a.eff.delta.length) (fun k => a.eff.delta.length - k) 0 xE (Nat.zero_le _) ?_
 intro k hk2
 have hlen := addD_length (a.eff.delta.take k) s
 by_cases hkl : k < a.eff.delta.length
 ·obtain ⟨p, hp⟩ := get_of hkl
  obtain ⟨p1, p2⟩ := heo.d p (List.mem_of_getElem? hp)
  obtain ⟨z, hz⟩ := get_of (l := addD s (a.eff.delta.take k)) (i := p.1.toNat) (by omega)
  have hsd := addD_succ (s := s) hp
  rw [show add1 (addD s (a.eff.delta.take k)) p = (addD s (a.eff.delta.take k)).set p.1.toNat (IntKind.i64.wrap (z + p.2)) by rw [add1, hz];rfl] at hsd
  repeat' (first|refine Sp.h ?_|refine Lk.r rfl ?_|refine Rf.mk rfl ?_|refine xA ?_|refine OpK.r rfl ?_|(refine Im.mk ?_;intro _)|refine xU ?_|refine xI ?_|(apply Ix.r;(focus assumption);(focus omega))|refine xJ ?_|refine xD ?_|fail)
  refine ⟨?_⟩
  repeat' (first|refine Sp.h ?_|refine Lk.r rfl ?_|refine Rf.mk rfl ?_|refine OpK.r rfl ?_|refine xU ?_|(apply Ix.r;(focus assumption);(focus omega))|refine xJ ?_|refine xV ?_|refine Up.r rfl ?_|refine xO ?_|fail)
  rw [← hsd]
  all_goals exact PA.lp (k + 1) xE ⟨hkl, by omega⟩
 ·have hke : k = a.eff.delta.length := by omega
  subst hke
  rw [List.take_length, ← hadd, ← hsu]
  repeat' (first|refine Sp.h ?_|refine Lk.r rfl ?_|refine Rf.mk rfl ?_|refine xB ?_|(refine Im.mk ?_;intro _)|refine xO ?_|fail)
  exact PA.lp (i + 1) xE ⟨hin, by omega⟩
end Go.Proofs.YtmllihbhphnolaaGreat
namespace Go.Proofs.YtmllihbhphnolaaGreat
open Go Go.CF
set_option maxRecDepth 20000
theorem alike31_t (l : List (List Int)) (hl : 0 < l.length) (d : List Int) (hd : l[0]? = some d) (h : ∀ c ∈ l, ValC c ∧ c.length = d.length) : CallP Tryz.prog 246 [clks l] (bl true) := by
 refine CallA.of pg ord246 Tryz.func246 rfl Tryz.ntmps246 Tryz.results246 rfl fun h0 G0 O0 => ?_
 repeat' (first|refine Sp.h ?_|refine Lk.r rfl ?_|refine Rf.mk rfl ?_|fail)
 refine CA.loop (fun i : Nat => ⟨[(0, clks l), (3, it i)], []⟩) (fun i => i ≤ l.length) (fun i => l.length - i) 0 xE (Nat.zero_le _) ?_
 intro i hi
 by_cases hin : i < l.length
 ·obtain ⟨c, hc⟩ := get_of hin
  obtain ⟨h1, h2⟩ := h c (List.mem_of_getElem? hc)
  have hv := validR_p c
  rw [decide_eq_true h1] at hv
  repeat' (first|refine Sp.h ?_|refine Lk.r rfl ?_|refine Rf.mk rfl ?_|refine xA ?_|refine OpK.r rfl ?_|(refine Im.mk ?_;intro _)|refine xI ?_|refine xD ?_|refine xO ?_|(apply Cl.p (hv);(focus repeat' (first|exact Lend.nil|apply Lend.keep|fail))))
  all_goals exact PA.lp (i + 1) xE ⟨hin, by omega⟩
 ·have hie : i = l.length := by omega
  subst hie
  repeat' (first|refine Sp.h ?_|refine Lk.r rfl ?_|refine Rf.mk rfl ?_|refine xB ?_|(refine Im.mk ?_;intro _)|refine xN ?_|fail)
  all_goals exact Fin.p rfl (vb (decide_eq_true (by omega)))
theorem mix_at {a z : List Int} {k : Nat} {x y : Int} (hl : z.length = a.length) (hx : a[k]? = some x) (hy : z[k]? = some y) : (z.take k ++ a.drop k)[k]? = some x ∧ (z.take k ++ a.drop k).set k y = z.take (k + 1) ++ a.drop (k + 1) := by
 have hk := (List.getElem?_eq_some_iff.1 hx).1
 have h1 : (z.take k).length = k := by rw [List.length_take];omega
 have h2 := List.drop_eq_getElem_cons hk
 rw [(List.getElem?_eq_some_iff.1 hx).2] at h2
 refine ⟨by rw [List.getElem?_append_right (by omega), h1, Nat.sub_self, h2];rfl, ?_⟩
 rw [List.set_append_right _ _ (by omega), h1, Nat.sub_self, h2, List.set_cons_zero, List.take_add_one, hy, Option.toList_some, List.append_assoc]
 rfl
set_option maxHeartbeats 2000000 in
theorem join31_o (a b : List Int) (ha : ValC a) (hb : ValC b) (hl : a.length = b.length) : CallO Tryz.prog 179 [clks [a, b]] 3 1 (joinC a b) intC := by
 have hal := alike31_t [a, b] (by simp) a rfl (by simp;exact ⟨ha, hb, hl.symm⟩)
 have hjl : (joinC a b).length = a.length := joinC_len hl
 have h5 := ha.2
 obtain ⟨L, hL⟩ : ∃ L, L = [a, b] := ⟨_, rfl⟩
 have hL0 : L[0]? = some a := by rw [hL];rfl
 have hL1 : L[1]? = some b := by rw [hL];rfl
 have hLl : L.length = 2 := by rw [hL];rfl
 rw [← hL] at hal ⊢
 refine CallA.of pg ord179 Tryz.func179 rfl Tryz.ntmps179 Tryz.results179 rfl fun h0 G0 O0 => ?_
 repeat' (first|refine Sp.h ?_|refine Lk.r rfl ?_|refine Rf.mk rfl ?_|refine xA ?_|refine xP ?_|(refine All.mk ?_;intro _)|refine xU ?_|refine xI ?_|refine Ce.l rfl ?_|(apply Fk.r;focus repeat' first|infer_instance|constructor)|refine Rf.mk ⟨rfl, rfl⟩ ?_|refine Rf.mk ⟨rfl, rfl, rfl⟩ ?_|refine Mp.same ?_|(apply Cl.p (hal);(focus repeat' (first|exact Lend.nil|apply Lend.keep|fail))))
 rename_i _ u
 refine CA.loop (fun x : Nat × List Int => ⟨[(0, clks L), (3, .ow u), (4, it x.1)], [arrR u 3 1 x.2 intC]⟩) (fun x => x.1 ≤ 2 ∧ x.2 = if x.1 = 2 then joinC a b else a) (fun x => 2 - x.1) (0, a) xE ⟨by omega, rfl⟩ ?_
 rintro ⟨i, out⟩ ⟨hi, ho⟩
 simp only at hi ho
 simp only
 by_cases h2 : i = 2
 ·subst h2
  rw [if_pos rfl] at ho
  subst ho
  repeat' (first|refine Sp.h ?_|refine Lk.r rfl ?_|refine Rf.mk rfl ?_|refine xB ?_|(refine Im.mk ?_;intro _)|refine xN ?_|fail)
  exact ⟨_, _, .one (.same (.z)), _, rfl, rfl⟩
 rw [if_neg h2] at ho
 subst ho
 by_cases h0 : i = 0
 ·subst h0
  repeat' (first|refine Sp.h ?_|refine Lk.r rfl ?_|refine Rf.mk rfl ?_|refine xA ?_|(refine Im.mk ?_;intro _)|fail)
  refine CA.loop (fun k : Nat => ⟨[(0, clks L), (3, .ow u), (4, it (0 : Nat)), (5, it k)], [arrR u 3 1 out intC]⟩) (fun k => k ≤ out.length) (fun k => out.length - k) 0 xE (Nat.zero_le _) ?_
  intro k hk
  by_cases hkn : k < out.length
  ·obtain ⟨x, hx⟩ := get_of hkn
   repeat' (first|refine Sp.h ?_|refine Lk.r rfl ?_|refine Rf.mk rfl ?_|refine xA ?_|refine xB ?_|refine OpK.r rfl ?_|refine xU ?_|refine xI ?_|refine xJ ?_|refine xD ?_|refine xO ?_|fail)
   all_goals exact PA.lp (k + 1) xE ⟨hkn, by omega⟩
  ·repeat' (first|refine Sp.h ?_|refine Lk.r rfl ?_|refine Rf.mk rfl ?_|refine xB ?_|refine xU ?_|refine xO ?_|fail)
   all_goals exact PA.lp (1, out) xE ⟨⟨by omega, by simp⟩, by simp only;omega⟩
 have h1 : i = 1 := by omega
 subst h1
 repeat' (first|refine Sp.h ?_|refine Lk.r rfl ?_|refine Rf.mk rfl ?_|refine xA ?_|(refine Im.mk ?_;intro _)|fail)
 refine CA.loop (fun k : Nat => ⟨[(0, clks L), (3, .ow u), (4, it (1 : Nat)), (5, it k)], [arrR u 3 1 ((joinC out b).take k ++ out.drop k) intC]⟩) (fun k => k ≤ out.length) (fun k => out.length - k) 0 xE (Nat.zero_le _) ?_
 intro k hk
 have hml : ((joinC out b).take k ++ out.drop k).length = out.length := by rw [List.length_append, List.length_take, List.length_drop];omega
 by_cases hkn : k < out.length
 ·obtain ⟨x, hx⟩ := get_of hkn
  obtain ⟨y, hy⟩ := get_of (l := b) (i := k) (by omega)
  have hz : (joinC out b)[k]? = some (max x y) := (zipC_at hl).2 ⟨x, y, hx, hy, rfl⟩
  obtain ⟨m1, m2⟩ := mix_at hjl hx hz
  by_cases hxy : x < y
  ·rw [show max x y = y by omega] at m2
   repeat' (first|refine Sp.h ?_|refine Lk.r rfl ?_|refine Rf.mk rfl ?_|refine xA ?_|refine OpK.r rfl ?_|refine xU ?_|refine xI ?_|refine xJ ?_|refine xV ?_|refine Up.r rfl ?_|refine xD ?_|refine xO ?_|fail)
   rw [m2]
   all_goals exact PA.lp (k + 1) xE ⟨hkn, by omega⟩
  ·rw [show max x y = x by omega] at m2
   have m3 : ((joinC out b).take k ++ out.drop k).set k x = (joinC out b).take k ++ out.drop k := set_same m1
   rw [m3] at m2
   repeat' (first|refine Sp.h ?_|refine Lk.r rfl ?_|refine Rf.mk rfl ?_|refine xA ?_|refine xB ?_|refine OpK.r rfl ?_|refine xU ?_|refine xI ?_|refine xJ ?_|refine xD ?_|refine xO ?_|fail)
   rw [m2]
   all_goals exact PA.lp (k + 1) xE ⟨hkn, by omega⟩
 ·have hke : k = out.length := by omega
  subst hke
  rw [List.drop_length, List.append_nil, List.take_of_length_le (by omega)]
  repeat' (first|refine Sp.h ?_|refine Lk.r rfl ?_|refine Rf.mk rfl ?_|refine xB ?_|refine xU ?_|refine xO ?_|fail)
  all_goals exact PA.lp (2, joinC out b) xE ⟨⟨by omega, by simp⟩, by simp only;omega⟩
end Go.Proofs.YtmllihbhphnolaaGreat
namespace Go.Proofs.YtmllihbhphnolaaGreat
open Go Go.CF
set_option maxRecDepth 20000
def behO : Nat → Ord × (Nat → Cls) := fun id => bif Nat.beq id 2 then (.one 0 (.one 1 (.one 2 (.one 3 (.one 4 (.one 5 (.one 6 (.one 7 (.one 8 (.one 9 (.one 10 (.one 11 (.one 12 (.one 13 (.one 14 .done)))))))))))))), clOf [.pure, .read, .pure, .read, .pure, .read, .pure, .read, .pure, .read, .pure, .read, .pure, .pure, .loud]) else bif Nat.beq id 9 then (.one 1 (.one 2 (.one 4 (.alt 0 (.alt 3 (.one 5 (.one 6 (.one 7 (.one 8 (.one 9 (.one 10 .done)))))) (.alt 5 (.alt 3 (.one 6 (.one 7 (.one 8 (.one 9 (.one 10 .done))))) (.alt 6 (.one 3 (.one 7 (.one 8 (.one 9 (.one 10 .done))))) (.none))) (.none))) (.alt 5 (.alt 0 (.alt 3 (.one 6 (.one 7 (.one 8 (.one 9 (.one 10 .done))))) (.alt 6 (.one 3 (.one 7 (.one 8 (.one 9 (.one 10 .done))))) (.none))) (.alt 6 (.one 0 (.one 3 (.one 7 (.one 8 (.one 9 (.one 10 .done)))))) (.none))) (.none))))), clOf [.ext, .pure, .read, .loud, .pure, .ext, .ext, .loud, .loud, .pure, .loud]) else (.done, clOf [])
noncomputable def behF (m : ModS) (b : NowS) (e : EvS) : NowS :=
 ⟨(joinC b.clock e.past).set e.rep.toNat (max ((joinC b.clock e.past)[e.rep.toNat]?.getD 0) e.num), max b.time e.time, addE m b.state e, if (applyF m b.merged e).1 = 0 then (applyF m b.merged e).2 else b.merged, if 0 < e.place then srtD (b.places ++ [e.place]) else b.places⟩
set_option maxHeartbeats 4000000 in
theorem behind_p (m : ModS) (b : NowS) (e : EvS) (hm : MOK m) (hc : ValC b.clock) (he : EvV m (b.clock.length : Nat) e) (hst : b.state.length = strF m) (hpl : b.places.length ≤ 10000) : CallP Tryz.prog 124 [mdl m, basA b, evA' e] (.tup [basA (behF m b e), it (applyF m b.merged e).1]) := by
 have hel : e.past.length = b.clock.length := by have := he.2.1;omega
 have hev : EvV m (e.past.length : Nat) e := by rw [hel];exact he
 have hf := formed_rep he.1
 have hj := join31_o b.clock e.past hc he.1.1 hel.symm
 have hjl : (joinC b.clock e.past).length = b.clock.length := joinC_len hel.symm
 have hs := state32_p m b.state [e] hm hst (by simp) (fun x hx => by rw [List.mem_singleton.1 hx];exact hev)
 have ha := apply34_p m b.merged e hm
 obtain ⟨J, hJ⟩ : ∃ J, J = joinC b.clock e.past := ⟨_, rfl⟩
 rw [← hJ] at hj hjl
 obtain ⟨n, hn⟩ : ∃ n : Nat, e.rep = n := ⟨e.rep.toNat, by omega⟩
 obtain ⟨z, hz⟩ := get_of (l := J) (i := n) (by omega)
 have hc5 := hc.2
 have hso := sorted_p (b.places ++ [e.place]) (by simp;omega)
 have hB : behF m b e = ⟨J.set n (max z e.num), max b.time e.time, addE m b.state e, if (applyF m b.merged e).1 = 0 then (applyF m b.merged e).2 else b.merged, if 0 < e.place then srtD (b.places ++ [e.place]) else b.places⟩ := by
  unfold behF
  rw [← hJ, hn]
  simp only [Int.toNat_natCast]
  rw [hz]
  rfl
 rw [hB]
 refine CallA.of pg behO Tryz.func124 rfl Tryz.ntmps124 Tryz.results124 rfl fun h0 G0 O0 => ?_
 repeat' (first|refine Sp.h ?_|refine Lk.r rfl ?_|refine Rf.mk rfl ?_|(refine All.mk ?_;intro _)|refine xT ?_|(apply Fk.r;focus repeat' first|infer_instance|constructor)|refine xN ?_|refine Rf.mk ⟨rfl, rfl, rfl⟩ ?_|fail)
 (apply Cl.fz;(focus repeat' (first|exact FZ.nil|(apply FZ.fz;(focus repeat constructor);(focus first|omega|decide|exact Nat.le_of_ble_eq_true rfl|(simp <;> omega)))|apply FZ.agg|apply FZ.same)))
 (refine Cl.use (hj) (by repeat' (first|exact Lend.nil|(apply Lend.mp;(focus rfl))|fail)) .nil rfl ?_;rintro _ _ ⟨_, rfl, rfl⟩)
 (repeat' (first|(show CA _ _ (Code.region 3 _ _) _ _;apply Stopped.out)|refine Sp.h ?_|refine Lk.r rfl ?_|refine Rf.mk rfl ?_|refine OpK.r rfl ?_|refine xU ?_|refine xT ?_|(apply Ix.r;(focus assumption);(focus omega))|refine xJ ?_|refine xV ?_|refine Up.r rfl ?_|refine xD ?_|fail));any_goals apply Stopped.mk
 rename_i b3 b4 b5 b6 _ _
 (apply CA.own;(focus (apply OX.blk (b := b4);(focus repeat constructor);(focus (repeat' (first|exact FX.nil|(apply FX.s1;(focus repeat constructor);(focus first|omega|(simp;done)|(simp;omega)))|apply FX.k)));(focus repeat constructor))))
 repeat' (first|refine Sp.h ?_|refine Lk.r rfl ?_|refine Rf.mk rfl ?_|(refine All.mk ?_;intro _)|refine xT ?_|refine Ch.l ⟨rfl, rfl⟩ ?_|refine xV ?_|(apply Fk.r;focus repeat' first|infer_instance|constructor)|refine Rf.mk ⟨rfl, rfl, rfl⟩ ?_|fail)
 (apply Cl.fz;(focus repeat' (first|exact FZ.nil|(apply FZ.fz;(focus repeat constructor);(focus first|omega|decide|exact Nat.le_of_ble_eq_true rfl|(simp <;> omega)))|apply FZ.agg|apply FZ.same)))
 (apply Cl.p (hs);(focus repeat' (first|exact Lend.nil|apply Lend.keep|(apply Lend.mp;(focus rfl))|fail)))
 repeat' (first|refine Sp.h ?_|refine Lk.r rfl ?_|refine Rf.mk rfl ?_|refine xT ?_|refine Ch.l ⟨rfl, rfl⟩ ?_|refine xV ?_|fail)
 refine xQ (ha) ?_
 by_cases h0 : (applyF m b.merged e).1 = 0
 ·rw [if_pos h0]
  by_cases hp : 0 < e.place
  ·rw [if_pos hp]
   repeat' (first|refine Sp.h ?_|refine Lk.r rfl ?_|refine Rf.mk rfl ?_|refine xA ?_|refine OpK.r rfl ?_|refine xP ?_|(refine All.mk ?_;intro _)|refine xU ?_|refine xT ?_|refine Ce.l rfl ?_|refine Ce.r ?_|refine Ch.l ⟨rfl, rfl⟩ ?_|refine xV ?_|(apply SetAsk.r;focus repeat' constructor)|(apply Fk.r;focus repeat' first|infer_instance|constructor)|refine xN ?_|refine Rf.mk ⟨rfl, rfl⟩ ?_|refine Rf.mk ⟨rfl, rfl, rfl⟩ ?_|refine Mp.same ?_|(apply Mp.lit;(focus repeat (first|exact MpL.nil|(apply MpL.cons;(focus rfl))|(apply MpL.inv;(focus repeat constructor);(focus infer_instance)))))|refine xD ?_|exact trivial|apply RA'.both|(((apply Cl.fz;(focus repeat' (first|exact FZ.nil|(apply FZ.fz;(focus repeat constructor);(focus first|omega|decide|exact Nat.le_of_ble_eq_true rfl|(simp <;> omega)))|apply FZ.agg|apply FZ.same))));((apply Cl.p (hso);(focus repeat' (first|exact Lend.nil|apply Lend.keep|fail))))))
   all_goals exact Fin.p rfl rfl
  ·rw [if_neg hp]
   repeat' (first|refine Sp.h ?_|refine Lk.r rfl ?_|refine Rf.mk rfl ?_|refine xA ?_|refine xB ?_|refine xT ?_|refine Ch.l ⟨rfl, rfl⟩ ?_|refine xV ?_|(apply SetAsk.r;focus repeat' constructor)|refine xN ?_|fail)
   all_goals exact Fin.p rfl rfl
 ·rw [if_neg h0]
  by_cases hp : 0 < e.place
  ·rw [if_pos hp]
   repeat' (first|refine Sp.h ?_|refine Lk.r rfl ?_|refine Rf.mk rfl ?_|refine xA ?_|refine xB ?_|refine OpK.r rfl ?_|refine xP ?_|(refine All.mk ?_;intro _)|refine xU ?_|refine xT ?_|refine Ce.l rfl ?_|refine Ce.r ?_|refine Ch.l ⟨rfl, rfl⟩ ?_|refine xV ?_|(apply SetAsk.r;focus repeat' constructor)|(apply Fk.r;focus repeat' first|infer_instance|constructor)|refine xN ?_|refine Rf.mk ⟨rfl, rfl⟩ ?_|refine Rf.mk ⟨rfl, rfl, rfl⟩ ?_|refine Mp.same ?_|(apply Mp.lit;(focus repeat (first|exact MpL.nil|(apply MpL.cons;(focus rfl))|(apply MpL.inv;(focus repeat constructor);(focus infer_instance)))))|refine xD ?_|exact trivial|apply RA'.both|(((apply Cl.fz;(focus repeat' (first|exact FZ.nil|(apply FZ.fz;(focus repeat constructor);(focus first|omega|decide|exact Nat.le_of_ble_eq_true rfl|(simp <;> omega)))|apply FZ.agg|apply FZ.same))));((apply Cl.p (hso);(focus repeat' (first|exact Lend.nil|apply Lend.keep|fail))))))
   all_goals exact Fin.p rfl rfl
  ·rw [if_neg hp]
   repeat' (first|refine Sp.h ?_|refine Lk.r rfl ?_|refine Rf.mk rfl ?_|refine xB ?_|refine xT ?_|refine Ch.l ⟨rfl, rfl⟩ ?_|(apply SetAsk.r;focus repeat' constructor)|refine xN ?_|fail)
   all_goals exact Fin.p rfl rfl
end Go.Proofs.YtmllihbhphnolaaGreat
namespace Go.Proofs.YtmllihbhphnolaaGreat
open Go Go.CF
set_option maxRecDepth 20000
structure RefB (m : ModS) (n : Nat) (b : NowS) : Prop where
 clk : ValC b.clock
 len : b.clock.length = n
 st : b.state.length = strF m
theorem behF_ok {m : ModS} {n : Nat} {b : NowS} {e : EvS} (h : RefB m n b) (he : EvV m (n : Nat) e) : RefB m n (behF m b e) ∧ (behF m b e).places.length ≤ b.places.length + 1 := by
 have hel : e.past.length = b.clock.length := by have := he.2.1;have := h.len;omega
 have hjv : ValC (joinC b.clock e.past) := joinC_val h.clk he.1.1 hel.symm
 have hjl : (joinC b.clock e.past).length = n := by rw [joinC_len hel.symm];exact h.len
 have hnum := formed_num he.1
 refine ⟨⟨⟨fun z hz => ?_, by simp only [behF, List.length_set];exact hjv.2⟩, by simp only [behF, List.length_set];exact hjl, by simp only [behF, addE_len];exact h.st⟩, ?_⟩
 ·rcases List.mem_or_eq_of_mem_set hz with hz|rfl
  ·exact hjv.1 z hz
  ·refine rng_max _ _ ?_ hnum
   cases hx : (joinC b.clock e.past)[e.rep.toNat]? with
   | none => simp [rngK]
   | some y => exact hjv.1 y (List.mem_of_getElem? hx)
 ·simp only [behF]
  split
  ·have := srtD_len (b.places ++ [e.place]);simp at this;omega
  ·omega
theorem sumF_ok {m : ModS} {n : Nat} {b : NowS} (l : List EvS) (h : RefB m n b) (hl : ∀ e ∈ l, EvV m (n : Nat) e) : RefB m n (l.foldl (behF m) b) ∧ (l.foldl (behF m) b).places.length ≤ b.places.length + l.length := by
 induction l generalizing b with
 | nil => exact ⟨h, by simp⟩
 | cons e l ih =>
  obtain ⟨h1, h2⟩ := behF_ok h (hl e (by simp))
  obtain ⟨h3, h4⟩ := ih h1 fun x hx => hl x (List.mem_cons_of_mem _ hx)
  rw [List.foldl_cons]
  exact ⟨h3, by simp only [List.length_cons];omega⟩
set_option maxHeartbeats 2000000 in
theorem sum35_p (m : ModS) (n : Nat) (b : NowS) (l : List EvS) (hm : MOK m) (h : RefB m n b) (hl : ∀ e ∈ l, EvV m (n : Nat) e) (hp : b.places.length + l.length ≤ 10000) : CallP Tryz.prog 166 [mdl m, basA b, evs l] (basA (l.foldl (behF m) b)) := by
 refine CallA.of pg ord166 Tryz.func166 rfl Tryz.ntmps166 Tryz.results166 rfl fun h0 G0 O0 => ?_
 repeat' (first|refine Sp.h ?_|refine Lk.r rfl ?_|refine Rf.mk rfl ?_|(refine All.mk ?_;intro _)|refine xN ?_|fail)
 rename_i b3 b4 b6
 refine CA.loop (fun i : Nat => ⟨[(2, evs l), (3, pm b3), (4, pm b4), (6, pm b6), (7, it i)], [mR b3 m, blkR b4 75 (basC ((l.take i).foldl (behF m) b)), blkR b6 75 [nl0, it 0, nl0, nl0, nl0, nl0, nl0]]⟩) (fun i => i ≤ l.length) (fun i => l.length - i) 0 xE (Nat.zero_le _) ?_
 intro i hi
 by_cases hin : i < l.length
 ·obtain ⟨e, he⟩ := get_of hin
  have hsu : (l.take (i + 1)).foldl (behF m) b = behF m ((l.take i).foldl (behF m) b) e := by rw [List.take_add_one, he, Option.toList_some, List.foldl_append];rfl
  obtain ⟨h1, h2⟩ := sumF_ok (l.take i) h fun x hx => hl x (List.mem_of_mem_take hx)
  have h3 : (l.take i).length ≤ l.length := by rw [List.length_take];omega
  have hev := hl e (List.mem_of_getElem? he)
  have hbe := behind_p m ((l.take i).foldl (behF m) b) e hm h1.clk (by rw [h1.len];exact hev) h1.st (by omega)
  rw [← hsu] at hbe
  repeat' (first|refine Sp.h ?_|refine Lk.r rfl ?_|refine Rf.mk rfl ?_|refine xA ?_|refine OpK.r rfl ?_|(refine Im.mk ?_;intro _)|refine xT ?_|refine xI ?_|refine Ch.l ⟨rfl, rfl⟩ ?_|(apply SetAsk.r;focus repeat' constructor)|refine xD ?_|refine xO ?_|(apply Cl.p (hbe);(focus repeat' (first|exact Lend.nil|apply Lend.keep|fail))))
  all_goals exact PA.lp (i + 1) xE ⟨hin, by omega⟩
 ·have hie : i = l.length := by omega
  subst hie
  rw [List.take_length]
  repeat' (first|refine Sp.h ?_|refine Lk.r rfl ?_|refine Rf.mk rfl ?_|refine xB ?_|(refine Im.mk ?_;intro _)|refine xT ?_|refine Ch.l ⟨rfl, rfl⟩ ?_|(apply SetAsk.r;focus repeat' constructor)|refine xN ?_|fail)
  exact Fin.p rfl rfl
abbrev rstC (b : NowS) (l : List EvS) : List AV := [ints b.clock, it b.time, ints b.state, mgs b.merged, nl0, nl0, ints b.places, evs l]
theorem all35_p (m : ModS) (n : Nat) (b : NowS) (l : List EvS) (hm : MOK m) (h : RefB m n b) (hl : ∀ e ∈ l, EvV m (n : Nat) e) (hp : b.places.length + l.length ≤ 10000) : CallP Tryz.prog 109 [mdl m, .agg (rstC b l)] (basA (l.foldl (behF m) b)) := by
 have hs := sum35_p m n b l hm h hl hp
 refine CallA.of pg ord109 Tryz.func109 rfl Tryz.ntmps109 Tryz.results109 rfl fun h0 G0 O0 => ?_
 repeat' (first|refine Sp.h ?_|refine Lk.r rfl ?_|refine Rf.mk rfl ?_|(refine All.mk ?_;intro _)|refine xT ?_|refine Ch.l ⟨rfl, rfl⟩ ?_|refine Ch.r ?_|(apply SetAsk.r;focus repeat' constructor)|refine xN ?_|(apply Cl.p (hs);(focus repeat' (first|exact Lend.nil|apply Lend.keep|fail))))
 all_goals exact Fin.p rfl rfl
end Go.Proofs.YtmllihbhphnolaaGreat
namespace Go.Proofs.YtmllihbhphnolaaGreat
open Go Go.CF
set_option maxRecDepth 20000
theorem inside35r_p (l : List Int) : CallP Tryz.prog 107 [ints l] (bl (decide (insS l))) := by
 refine CallA.of pg ord107 Tryz.func107 rfl Tryz.ntmps107 Tryz.results107 rfl fun h0 G0 O0 => ?_
 repeat' (first|refine Sp.h ?_|refine Lk.r rfl ?_|refine Rf.mk rfl ?_|fail)
 refine CA.loop (fun i : Nat => ⟨[(0, ints l), (3, it i)], []⟩) (fun i => i ≤ l.length ∧ insS (l.take i)) (fun i => l.length - i) 0 xE ⟨Nat.zero_le _, fun x hx => by simp at hx⟩ ?_
 rintro i ⟨hi, hs⟩
 by_cases hin : i < l.length
 ·obtain ⟨x, hx⟩ := get_of hin
  by_cases h1 : x < -1000000000
  ·have hn : ¬ insS l := fun h => by have := h x (List.mem_of_getElem? hx);omega
   rw [decide_eq_false hn]
   repeat' (first|refine Sp.h ?_|refine Lk.r rfl ?_|refine Rf.mk rfl ?_|refine xA ?_|(refine Im.mk ?_;intro _)|refine xI ?_|refine xN ?_|fail)
   all_goals exact Fin.p rfl rfl
  by_cases h2 : 1000000000 < x
  ·have hn : ¬ insS l := fun h => by have := h x (List.mem_of_getElem? hx);omega
   rw [decide_eq_false hn]
   repeat' (first|refine Sp.h ?_|refine Lk.r rfl ?_|refine Rf.mk rfl ?_|refine xA ?_|refine xB ?_|(refine Im.mk ?_;intro _)|refine xI ?_|refine xN ?_|fail)
   all_goals exact Fin.p rfl rfl
  ·have hs2 : insS (l.take (i + 1)) := by
    intro y hy
    rw [List.take_add_one, hx] at hy
    rcases List.mem_append.1 hy with hy|hy
    ·exact hs y hy
    ·rw [List.mem_singleton.1 hy];omega
   repeat' (first|refine Sp.h ?_|refine Lk.r rfl ?_|refine Rf.mk rfl ?_|refine xA ?_|refine xB ?_|(refine Im.mk ?_;intro _)|refine xI ?_|refine xO ?_|fail)
   all_goals exact PA.lp (i + 1) xE ⟨⟨hin, hs2⟩, by omega⟩
 ·have hie : i = l.length := by omega
  subst hie
  rw [List.take_length] at hs
  rw [decide_eq_true hs]
  repeat' (first|refine Sp.h ?_|refine Lk.r rfl ?_|refine Rf.mk rfl ?_|refine xB ?_|(refine Im.mk ?_;intro _)|refine xN ?_|fail)
  exact Fin.p rfl rfl
end Go.Proofs.YtmllihbhphnolaaGreat
namespace Go.Proofs.YtmllihbhphnolaaGreat
open Go Go.CF
set_option maxRecDepth 20000
def delO : Nat → Ord × (Nat → Cls) := fun id => bif Nat.beq id 12 then (.one 0 (.one 1 (.one 2 (.one 3 (.one 4 (.one 5 (.one 6 (.one 7 (.one 8 (.one 9 (.one 10 (.one 11 (.one 12 (.one 13 (.one 14 (.one 15 (.one 16 (.one 17 .done))))))))))))))))), clOf [.pure, .read, .pure, .pure, .read, .read, .loud, .pure, .pure, .read, .pure, .pure, .pure, .read, .pure, .read, .pure, .pure]) else bif Nat.beq id 19 then (.one 1 (.one 2 (.alt 0 (.alt 3 (.one 4 (.one 5 (.one 6 (.one 7 (.one 8 .done))))) (.alt 4 (.alt 3 (.one 5 (.one 6 (.one 7 (.one 8 .done)))) (.alt 5 (.one 3 (.one 6 (.one 7 (.one 8 .done)))) (.none))) (.none))) (.alt 4 (.alt 0 (.alt 3 (.one 5 (.one 6 (.one 7 (.one 8 .done)))) (.alt 5 (.one 3 (.one 6 (.one 7 (.one 8 .done)))) (.none))) (.alt 5 (.one 0 (.one 3 (.one 6 (.one 7 (.one 8 .done))))) (.none))) (.none)))), clOf [.ext, .pure, .read, .loud, .ext, .ext, .loud, .pure, .loud]) else (.done, clOf [])
set_option maxHeartbeats 8000000 in
theorem deliver35_p (m : ModS) (n : Nat) (b : NowS) (l : List EvS) (W : NowS) (e : EvS) (hm : MOK m) (h : RefB m n b) (hl : ∀ x ∈ l, EvV m (n : Nat) x) (hp : b.places.length + l.length ≤ 10000) (hW : W = l.foldl (behF m) b) (hin : insS W.state) :
  CallP Tryz.prog 56 [mdl m, .agg (rstC b l), evA' e] (.tup [.agg (rstC b (evsD m l W e)), it (deliverF m l W e).1]) := by
 have hal := all35_p m n b l hm h hl hp
 obtain ⟨hr, hrp⟩ := sumF_ok l h hl
 rw [← hW] at hal hr hrp
 have hva := evalid32_p m (W.clock.length : Nat) e
 have hna := nameR_p e
 have hha := hasR_p W.clock e.rep e.num
 have hii := insideR_p e.past W.clock
 have hev : ∀ c : Int, c ≠ 0 → deliverF m l W e = (c, W) → evsD m l W e = l := fun c hc hd => by rw [evsD, hd];exact if_neg hc
 by_cases c1 : EvV m (W.clock.length : Nat) e
 rotate_left
 ·have hd : deliverF m l W e = (1, W) := by rw [deliverF, if_pos c1]
  rw [hev 1 (by decide) hd, hd]
  rw [decide_eq_false c1] at hva
  refine CallA.of pg ord56 Tryz.func56 rfl Tryz.ntmps56 Tryz.results56 rfl fun h0 G0 O0 => ?_
  repeat' (first|refine Sp.h ?_|refine Lk.r rfl ?_|refine Rf.mk rfl ?_|refine xB ?_|(refine Im.mk ?_;intro _)|(refine All.mk ?_;intro _)|refine xT ?_|refine Ch.l ⟨rfl, rfl⟩ ?_|(apply SetAsk.r;focus repeat' constructor)|refine xN ?_|(apply Cl.p (hal);(focus repeat' (first|exact Lend.nil|apply Lend.keep|fail)))|(apply Cl.p (hva);(focus repeat' (first|exact Lend.nil|apply Lend.keep|fail))))
  all_goals exact Fin.p rfl rfl
 rw [decide_eq_true c1] at hva
 by_cases c2 : HasC W.clock e.rep e.num
 ·have hd : deliverF m l W e = (6, W) := by rw [deliverF, if_neg (fun h9 => h9 c1), if_pos c2]
  rw [hev 6 (by decide) hd, hd]
  rw [decide_eq_true c2] at hha
  refine CallA.of pg ord56 Tryz.func56 rfl Tryz.ntmps56 Tryz.results56 rfl fun h0 G0 O0 => ?_
  repeat' (first|refine Sp.h ?_|refine Lk.r rfl ?_|refine Rf.mk rfl ?_|refine xA ?_|(refine Im.mk ?_;intro _)|(refine All.mk ?_;intro _)|refine xT ?_|refine Ch.l ⟨rfl, rfl⟩ ?_|(apply SetAsk.r;focus repeat' constructor)|refine xN ?_|(apply Cl.p (hal);(focus ((repeat' (first|exact Lend.nil|apply Lend.keep|fail));done)))|(apply Cl.p (hva);(focus ((repeat' (first|exact Lend.nil|apply Lend.keep|fail));done)))|(apply Cl.p (hna);(focus ((repeat' (first|exact Lend.nil|apply Lend.keep|fail));done)))|(apply Cl.p (hha);(focus ((repeat' (first|exact Lend.nil|apply Lend.keep|fail));done))))
  all_goals exact Fin.p rfl rfl
 rw [decide_eq_false c2] at hha
 by_cases c3 : Ins e.past W.clock
 rotate_left
 ·have hd : deliverF m l W e = (9, W) := by rw [deliverF, if_neg (fun h9 => h9 c1), if_neg c2, if_pos c3]
  rw [hev 9 (by decide) hd, hd]
  rw [decide_eq_false c3] at hii
  refine CallA.of pg ord56 Tryz.func56 rfl Tryz.ntmps56 Tryz.results56 rfl fun h0 G0 O0 => ?_
  repeat' (first|refine Sp.h ?_|refine Lk.r rfl ?_|refine Rf.mk rfl ?_|refine xA ?_|refine xB ?_|(refine Im.mk ?_;intro _)|(refine All.mk ?_;intro _)|refine xT ?_|refine Ch.l ⟨rfl, rfl⟩ ?_|(apply SetAsk.r;focus repeat' constructor)|refine xN ?_|(apply Cl.p (hal);(focus ((repeat' (first|exact Lend.nil|apply Lend.keep|fail));done)))|(apply Cl.p (hva);(focus ((repeat' (first|exact Lend.nil|apply Lend.keep|fail));done)))|(apply Cl.p (hna);(focus ((repeat' (first|exact Lend.nil|apply Lend.keep|fail));done)))|(apply Cl.p (hha);(focus ((repeat' (first|exact Lend.nil|apply Lend.keep|fail));done)))|(apply Cl.p (hii);(focus ((repeat' (first|exact Lend.nil|apply Lend.keep|fail));done))))
  all_goals exact Fin.p rfl rfl
 rw [decide_eq_true c3] at hii
 refine CallA.of pg delO Tryz.func56 rfl Tryz.ntmps56 Tryz.results56 rfl fun h0 G0 O0 => ?_
 repeat' (first|refine Sp.h ?_|refine Lk.r rfl ?_|refine Rf.mk rfl ?_|refine xA ?_|(refine Im.mk ?_;intro _)|(refine All.mk ?_;intro _)|refine xT ?_|refine Ch.l ⟨rfl, rfl⟩ ?_|(apply SetAsk.r;focus repeat' constructor)|refine xN ?_|(apply Cl.p (hal);(focus ((repeat' (first|exact Lend.nil|apply Lend.keep|fail));done)))|(apply Cl.p (hva);(focus ((repeat' (first|exact Lend.nil|apply Lend.keep|fail));done)))|(apply Cl.p (hna);(focus ((repeat' (first|exact Lend.nil|apply Lend.keep|fail));done)))|(apply Cl.p (hha);(focus ((repeat' (first|exact Lend.nil|apply Lend.keep|fail));done)))|(apply Cl.p (hii);(focus ((repeat' (first|exact Lend.nil|apply Lend.keep|fail));done))))
 rename_i b3 b4 b5 b6 b8 _
 have hbe := behind_p m W e hm hr.clk c1 hr.st (by omega)
 have hi2 := inside35r_p (addE m W.state e)
 refine CA.loop (fun i : Nat => ⟨[(3, pm b3), (4, pm b4), (5, pm b5), (6, pm b6), (8, pm b8), (10, it i)], [mR b3 m, blkR b4 80 (rstC b l), blkR b5 37 (evC e), blkR b6 80 [nl0, it 0, nl0, nl0, nl0, nl0, nl0, nl0], blkR b8 75 (basC W)]⟩) (fun i => i ≤ l.length ∧ ∀ x ∈ l.take i, ¬ (HasC e.past x.rep x.num ∧ e.time ≤ x.time)) (fun i => l.length - i) 0 xE ⟨Nat.zero_le _, by simp⟩ ?_
 rintro i ⟨hi, hno⟩
 by_cases hil : i < l.length
 ·obtain ⟨x, hx⟩ := get_of hil
  have hxl := List.mem_of_getElem? hx
  have hbf := before32_p x e
  by_cases hB : HasC e.past x.rep x.num
  ·rw [decide_eq_true (show BefE x e from ⟨(hl x hxl).1, c1.1, hB⟩)] at hbf
   by_cases ht : e.time ≤ x.time
   ·have hd : deliverF m l W e = (2, W) := by rw [deliverF, if_neg (fun h9 => h9 c1), if_neg c2, if_neg (fun h9 => h9 c3), if_pos (show LateE l e from ⟨x, hxl, hB, ht⟩)]
    rw [hev 2 (by decide) hd, hd]
    repeat' (first|refine Sp.h ?_|refine Lk.r rfl ?_|refine Rf.mk rfl ?_|refine xA ?_|refine OpK.r rfl ?_|(refine Im.mk ?_;intro _)|refine xT ?_|refine xI ?_|refine Ch.l ⟨rfl, rfl⟩ ?_|(apply SetAsk.r;focus repeat' constructor)|refine xN ?_|refine xD ?_|(apply Cl.p (hbf);(focus ((repeat' (first|exact Lend.nil|apply Lend.keep|fail));done))))
    all_goals exact Fin.p rfl rfl
   ·repeat' (first|refine Sp.h ?_|refine Lk.r rfl ?_|refine Rf.mk rfl ?_|refine xA ?_|refine xB ?_|refine OpK.r rfl ?_|(refine Im.mk ?_;intro _)|refine xT ?_|refine xI ?_|refine Ch.l ⟨rfl, rfl⟩ ?_|refine xD ?_|refine xO ?_|(apply Cl.p (hbf);(focus ((repeat' (first|exact Lend.nil|apply Lend.keep|fail));done))))
    all_goals exact PA.lp (i + 1) xE ⟨⟨hil, fun y hy => by
     rw [List.take_add_one, hx] at hy
     rcases List.mem_append.1 hy with hy|hy
     ·exact hno y hy
     ·rw [List.mem_singleton.1 hy];exact fun h9 => ht h9.2⟩, by omega⟩
  ·rw [decide_eq_false (show ¬ BefE x e from fun h9 => hB h9.2.2)] at hbf
   repeat' (first|refine Sp.h ?_|refine Lk.r rfl ?_|refine Rf.mk rfl ?_|refine xA ?_|refine OpK.r rfl ?_|(refine Im.mk ?_;intro _)|refine xT ?_|refine xI ?_|refine Ch.l ⟨rfl, rfl⟩ ?_|refine xD ?_|refine xO ?_|(apply Cl.p (hbf);(focus ((repeat' (first|exact Lend.nil|apply Lend.keep|fail));done))))
   all_goals exact PA.lp (i + 1) xE ⟨⟨hil, fun y hy => by
    rw [List.take_add_one, hx] at hy
    rcases List.mem_append.1 hy with hy|hy
    ·exact hno y hy
    ·rw [List.mem_singleton.1 hy];exact fun h9 => hB h9.1⟩, by omega⟩
 have hie : i = l.length := by omega
 subst hie
 rw [List.take_length] at hno
 have c4 : ¬ LateE l e := fun ⟨x, hx, h9⟩ => hno x hx h9
 by_cases c5 : insS (addE m W.state e)
 rotate_left
 ·have hk : e.kind = 0 := by
   by_cases hk : e.kind = 0
   ·exact hk
   ·exact absurd (by rw [addE, if_neg hk];exact hin) c5
  have hd : deliverF m l W e = (2, W) := by rw [deliverF, if_neg (fun h9 => h9 c1), if_neg c2, if_neg (fun h9 => h9 c3), if_neg c4, if_pos ⟨hk, c5⟩]
  rw [hev 2 (by decide) hd, hd]
  rw [decide_eq_false c5] at hi2
  repeat' (first|refine Sp.h ?_|refine Lk.r rfl ?_|refine Rf.mk rfl ?_|refine xB ?_|(refine Im.mk ?_;intro _)|(refine All.mk ?_;intro _)|refine xT ?_|refine Ch.l ⟨rfl, rfl⟩ ?_|(apply SetAsk.r;focus repeat' constructor)|refine xN ?_|(apply Cl.p (hbe);(focus ((repeat' (first|exact Lend.nil|apply Lend.keep|fail));done)))|(apply Cl.p (hi2);(focus ((repeat' (first|exact Lend.nil|apply Lend.keep|fail));done))))
  all_goals exact Fin.p rfl rfl
 rw [decide_eq_true c5] at hi2
 have c5' : ¬ (e.kind = 0 ∧ ¬ insS (addE m W.state e)) := fun h9 => h9.2 c5
 by_cases c6 : (applyF m W.merged e).1 = 0
 rotate_left
 ·have hd : deliverF m l W e = ((applyF m W.merged e).1, W) := by rw [deliverF, if_neg (fun h9 => h9 c1), if_neg c2, if_neg (fun h9 => h9 c3), if_neg c4, if_neg c5', if_pos c6]
  rw [hev _ c6 hd, hd]
  repeat' (first|refine Sp.h ?_|refine Lk.r rfl ?_|refine Rf.mk rfl ?_|refine xA ?_|refine xB ?_|(refine Im.mk ?_;intro _)|(refine All.mk ?_;intro _)|refine xT ?_|refine Ch.l ⟨rfl, rfl⟩ ?_|(apply SetAsk.r;focus repeat' constructor)|refine xN ?_|(apply Cl.p (hbe);(focus ((repeat' (first|exact Lend.nil|apply Lend.keep|fail));done)))|(apply Cl.p (hi2);(focus ((repeat' (first|exact Lend.nil|apply Lend.keep|fail));done))))
  all_goals exact Fin.p rfl rfl
 have hd : (deliverF m l W e).1 = 0 := by rw [deliverF, if_neg (fun h9 => h9 c1), if_neg c2, if_neg (fun h9 => h9 c3), if_neg c4, if_neg c5', if_neg (fun h9 => h9 c6)]
 rw [hd, evsD, if_pos hd]
 (repeat' (first|(show CA _ _ (Code.region 20 _ _) _ _;apply Stopped.out)|refine Sp.h ?_|refine Lk.r rfl ?_|refine Rf.mk rfl ?_|refine xA ?_|refine xB ?_|refine OpK.r rfl ?_|refine xP ?_|(refine Im.mk ?_;intro _)|(refine All.mk ?_;intro _)|refine xU ?_|refine xT ?_|refine Ce.l rfl ?_|refine Ce.r ?_|refine Ch.l ⟨rfl, rfl⟩ ?_|refine xV ?_|(apply SetAsk.r;focus repeat' constructor)|(apply Fk.r;focus repeat' first|infer_instance|constructor)|refine xN ?_|refine Rf.mk ⟨rfl, rfl⟩ ?_|refine Rf.mk ⟨rfl, rfl, rfl⟩ ?_|refine Mp.same ?_|(apply Mp.lit;(focus repeat (first|exact MpL.nil|(apply MpL.cons;(focus rfl))|(apply MpL.inv;(focus repeat constructor);(focus infer_instance)))))|refine xD ?_|exact trivial|apply RA'.both|(apply Cl.p (hbe);(focus ((repeat' (first|exact Lend.nil|apply Lend.keep|fail));done)))|(apply Cl.p (hi2);(focus ((repeat' (first|exact Lend.nil|apply Lend.keep|fail));done)))));any_goals apply Stopped.mk
 have hll : ([] ++ l ++ [e]).length ≤ 100000 := by simp;omega
 all_goals
  (apply CA.own;(focus (apply OX.blk (b := b4);(focus repeat constructor);(focus (repeat' (first|exact FX.nil|(apply FX.s1;(focus repeat constructor);(focus first|omega|(simp;done)|(simp;omega)))|apply FX.k)));(focus repeat constructor))))
  repeat' (first|refine Sp.h ?_|refine Lk.r rfl ?_|refine Rf.mk rfl ?_|refine xT ?_|refine Ch.l ⟨rfl, rfl⟩ ?_|(apply SetAsk.r;focus repeat' constructor)|refine xN ?_|fail)
  all_goals exact Fin.p rfl rfl
end Go.Proofs.YtmllihbhphnolaaGreat
namespace Go.Proofs.YtmllihbhphnolaaGreat
open Go Go.CF
set_option maxRecDepth 20000
theorem join_ins {a b : List Int} (hl : b.length = a.length) (h : Ins b a) : joinC a b = a := by
 refine List.ext_getElem? fun i => ?_
 by_cases hi : i < a.length
 ·obtain ⟨x, hx⟩ := get_of hi
  obtain ⟨y, hy⟩ := get_of (l := b) (i := i) (by omega)
  have := h i y x hy hx
  have h9 : (joinC a b)[i]? = some (max x y) := (zipC_at (op := max) hl.symm).2 ⟨x, y, hx, hy, rfl⟩
  rw [h9, hx]
  congr 1
  omega
 ·rw [List.getElem?_eq_none (by rw [joinC_len hl.symm];omega), List.getElem?_eq_none (by omega)]
theorem srtD_with {l : List Int} (n : Int) (h : SrtI l) : srtD (l ++ [n]) = withP l n := by
 have h1 := withP_si (n := n) (⟨h, fun _ => Iff.rfl⟩ : SI l l)
 exact (h1.uniq (srtD_si _)).symm
theorem beh_deliver {m : ModS} {n : Nat} {l : List EvS} {W : NowS} {e : EvS} (hr : RefB m n W) (hs : SrtI W.places) (h : (deliverF m l W e).1 = 0) : (deliverF m l W e).2 = behF m W e := by
 obtain ⟨_, he, ha⟩ := deliver_ok' h
 have hins : Ins e.past W.clock := by
  unfold deliverF at h
  rw [if_neg (fun h9 => h9 he)] at h
  by_cases h2 : HasC W.clock e.rep e.num
  ·rw [if_pos h2] at h;exact absurd (show (6 : Int) = 0 from h) (by decide)
  ·rw [if_neg h2] at h
   by_cases h3 : Ins e.past W.clock
   ·exact h3
   ·rw [if_pos h3] at h;exact absurd (show (9 : Int) = 0 from h) (by decide)
 have hel : e.past.length = W.clock.length := by have := he.2.1;omega
 rw [deliver_st h]
 unfold behF
 rw [join_ins hel hins, if_pos ha, srtD_with _ hs]
 rfl
end Go.Proofs.YtmllihbhphnolaaGreat
namespace Go.Proofs.YtmllihbhphnolaaGreat
open Go Go.CF
set_option maxRecDepth 20000
noncomputable instance (a b : List Int) : Decidable (Ins a b) := Classical.propDecidable _
end Go.Proofs.YtmllihbhphnolaaGreat
namespace Go.Proofs.YtmllihbhphnolaaGreat
open Go Go.CF
set_option maxRecDepth 20000
theorem deliver_ins {m : ModS} {L : List EvS} {w : NowS} {e : EvS} (h : (deliverF m L w e).1 = 0) : ¬ (e.kind = 0 ∧ ¬ insS (addE m w.state e)) := by
 intro h9
 unfold deliverF at h
 rw [if_pos h9] at h
 repeat' split at h
 all_goals (exfalso;revert h;simp)
structure OpnI (m : ModS) (n : Nat) (b : NowS) (i : Nat) (L : List EvS) : Prop where
 len : L.length ≤ i
 ev : ∀ e ∈ L, EvV m (n : Nat) e
 ins : insS (L.foldl (behF m) b).state
 srt : SrtI (L.foldl (behF m) b).places
theorem OpnI.step {m : ModS} {n : Nat} {b : NowS} {i : Nat} {L : List EvS} {e : EvS} (hr : RefB m n b) (h : OpnI m n b i L) (hd : (deliverF m L (L.foldl (behF m) b) e).1 = 0) :
  OpnI m n b (i + 1) (L ++ [e]) ∧ (deliverF m L (L.foldl (behF m) b) e).2 = (L ++ [e]).foldl (behF m) b := by
 obtain ⟨h1, h2⟩ := sumF_ok L hr h.ev
 have hb := beh_deliver h1 h.srt hd
 have hst := deliver_st hd
 have hev := (deliver_ok' hd).2.1
 rw [h1.len] at hev
 have hfo : (L ++ [e]).foldl (behF m) b = behF m (L.foldl (behF m) b) e := by rw [List.foldl_append];rfl
 refine ⟨⟨by rw [List.length_append];have := h.len;simp;omega, fun x hx => ?_, ?_, ?_⟩, by rw [hfo];exact hb⟩
 ·rcases List.mem_append.1 hx with hx|hx
  ·exact h.ev x hx
  ·rw [List.mem_singleton.1 hx];exact hev
 ·rw [hfo, ← hb, hst]
  simp only
  by_cases hk : e.kind = 0
  ·by_cases hi : insS (addE m (L.foldl (behF m) b).state e)
   ·exact hi
   ·exact absurd ⟨hk, hi⟩ (deliver_ins hd)
  ·rw [addE, if_neg hk];exact h.ins
 ·rw [hfo, ← hb, hst]
  exact (plE_srt h.srt).1
end Go.Proofs.YtmllihbhphnolaaGreat
namespace Go.Proofs.YtmllihbhphnolaaGreat
open Go Go.CF
set_option maxRecDepth 20000
noncomputable abbrev hlL (H : List (List Int × EvS)) : List EvS := ordE (H.map (·.2))
structure BufV (N : Nat) (c : List Int) (H : List (List Int × EvS)) : Prop where
 val : ValC c
 len : c.length = N
 hld : HldOK N H
 fm : ∀ p ∈ H, FormedE p.2 ∧ p.2.past.length = N
theorem rdy_both {N : Nat} {c : List Int} {H : List (List Int × EvS)} (h : BufV N c H) {e : EvS} (hf : FormedE e) (hl : e.past.length = N) : (Ins e.past c ∧ ¬ HasC c e.rep e.num) ↔ RdyE c e := by
 have hal : AlikeC [c, e.past] := (alike2 _ _).2 ⟨h.val, hf.1, by rw [h.len, hl]⟩
 exact ⟨fun h9 => ⟨h9.2, fun _ => h9.1⟩, fun h9 => ⟨h9.2 hal, h9.1⟩⟩
theorem hl_mem {H : List (List Int × EvS)} {x : EvS} : x ∈ hlL H ↔ ∃ p ∈ H, p.2 = x := by rw [ordE_mem, List.mem_map]
theorem hl_len (H : List (List Int × EvS)) : (hlL H).length = H.length := by rw [ordE_len, List.length_map]
theorem BufV.mem {N : Nat} {c : List Int} {H : List (List Int × EvS)} (h : BufV N c H) {x : EvS} (hx : x ∈ hlL H) : FormedE x ∧ x.past.length = N := by
 obtain ⟨p, hp, rfl⟩ := hl_mem.1 hx
 exact h.fm p hp
theorem cnt_set {N : Nat} {c : List Int} {H : List (List Int × EvS)} (h : BufV N c H) {e : EvS} (hf : FormedE e) (hl : e.past.length = N) (hn : ¬ HasC c e.rep e.num) : cntF c e = c.set e.rep.toNat e.num := by
 obtain ⟨f1, f2, f3⟩ := formed_rep hf
 obtain ⟨x, hx⟩ := get_of (l := c) (i := e.rep.toNat) (by rw [h.len, ← hl];exact f2)
 have : ¬ e.num ≤ x := fun h9 => hn ⟨h.val, f1, f3, x, hx, h9⟩
 rw [cntF, hx, Option.getD_some, show max x e.num = e.num by omega]
theorem BufV.next {N : Nat} {c : List Int} {H : List (List Int × EvS)} (h : BufV N c H) {e : EvS} (hf : FormedE e) (k : List Int) : BufV N (cntF c e) (delL H k) :=
 ⟨cnt_val h.val (formed_num hf), by rw [cntF_len];exact h.len, h.hld.del k, fun p hp => h.fm p ((delL_sub k H).mem hp)⟩
theorem del_perm {β : Type} {k : List Int} : ∀ {H : List (List Int × β)}, (∃ p ∈ H, p.1 = k) → ∃ q ∈ H, q.1 = k ∧ H.Perm (q :: delL H k)
 | [], h => by obtain ⟨p, hp, _⟩ := h;cases hp
 | (k', u) :: H, h => by
  by_cases h1 : k' = k
  ·refine ⟨(k', u), List.mem_cons_self, h1, ?_⟩
   simp only [delL, if_pos h1]
   exact List.Perm.refl _
  ·have : ∃ p ∈ H, p.1 = k := by
    obtain ⟨p, hp, hk⟩ := h
    rcases List.mem_cons.1 hp with rfl|hp
    ·exact absurd hk h1
    ·exact ⟨p, hp, hk⟩
   obtain ⟨q, hq, hqk, hp⟩ := del_perm this
   refine ⟨q, List.mem_cons_of_mem _ hq, hqk, ?_⟩
   simp only [delL, if_neg h1]
   exact (List.Perm.cons _ hp).trans (List.Perm.swap _ _ _)
theorem del_none {β : Type} {k : List Int} : ∀ {H : List (List Int × β)}, (∀ p ∈ H, p.1 ≠ k) → delL H k = H
 | [], _ => rfl
 | (k', u) :: H, h => by
  have h1 : ¬ k' = k := h (k', u) List.mem_cons_self
  simp only [delL, if_neg h1]
  rw [del_none fun p hp => h p (List.mem_cons_of_mem _ hp)]
theorem hl_erase {N : Nat} {H : List (List Int × EvS)} (h : HldOK N H) {i : Nat} {e : EvS} (he : (hlL H)[i]? = some e) : hlL (delL H [e.rep, e.num]) = (hlL H).take i ++ (hlL H).drop (i + 1) := by
 obtain ⟨p, hp, rfl⟩ := hl_mem.1 (List.mem_of_getElem? he)
 obtain ⟨q, hq, hqk, hperm⟩ := del_perm (k := [p.2.rep, p.2.num]) ⟨p, hp, h.key p hp⟩
 have hqe : q.2 = p.2 := h.nd.eq (List.mem_map_of_mem hq) (List.mem_map_of_mem hp) (by
  have := h.key q hq
  unfold nm
  rw [← this, hqk])
 have hd := List.take_append_drop i (hlL H)
 rw [List.drop_eq_getElem_cons (List.getElem?_eq_some_iff.1 he).1, (List.getElem?_eq_some_iff.1 he).2] at hd
 have hp1 : (hlL H).Perm (p.2 :: ((hlL H).take i ++ (hlL H).drop (i + 1))) := by
  exact (List.Perm.of_eq hd.symm).trans List.perm_middle
 have hp2 : (hlL H).Perm (p.2 :: (delL H [p.2.rep, p.2.num]).map (·.2)) := by
  refine (ordE_perm _).symm.trans ?_
  have := hperm.map (·.2)
  rw [List.map_cons, hqe] at this
  exact this
 have hp3 := List.Perm.cons_inv (hp2.symm.trans hp1)
 refine (ordE_uniq (h.del _).nd hp3 ?_).symm
 have hs := ordE_srt (H.map (·.2))
 have hsub : ((hlL H).take i ++ (hlL H).drop (i + 1)).Sublist ((hlL H).take i ++ p.2 :: (hlL H).drop (i + 1)) := List.Sublist.append (List.Sublist.refl _) (List.sublist_cons_self _ _)
 rw [hd] at hsub
 exact List.Pairwise.sublist hsub hs
theorem stlF_out : ∀ (n : Nat) (c : List Int) (H : List (List Int × EvS)) (out : List EvS), stlF n c H out = (out ++ (stlF n c H []).1, (stlF n c H []).2)
 | 0, c, H, out => by simp [stlF]
 | n + 1, c, H, out => by
  simp only [stlF]
  cases (ordE (H.map (·.2)))[idxN (rdyB c) (ordE (H.map (·.2)))]? with
  | none => simp
  | some e =>
   simp only
   rw [stlF_out n _ _ (out ++ [e]), stlF_out n _ _ ([] ++ [e])]
   simp
theorem hl_ins {N : Nat} {H : List (List Int × EvS)} (h : HldOK N H) {e : EvS} (hn : lookL H [e.rep, e.num] = none) : Uniq (hlL H ++ [e]) ∧ ordE (hlL H ++ [e]) = hlL (updL H [e.rep, e.num] e) := by
 rw [updL_none _ _ _ hn]
 have hne : ∀ p ∈ H, nm p.2 ≠ nm e := fun p hp h9 => by
  have h8 := h.key p hp
  exact look_none hn p hp (by rw [h8];exact h9)
 have hp : (H.map (·.2) ++ [e]).Perm (hlL H ++ [e]) := (ordE_perm _).append_right _
 have hu : Uniq (H.map (·.2) ++ [e]) := uniq_pair.2 (List.pairwise_append.2 ⟨uniq_pair.1 h.nd, by simp, fun a ha b hb => by
  obtain ⟨p, hp, rfl⟩ := List.mem_map.1 ha
  rw [List.mem_singleton.1 hb]
  exact hne p hp⟩)
 have hu2 := uniq_perm hp hu
 refine ⟨hu2, ?_⟩
 have he : (H ++ [([e.rep, e.num], e)]).map (·.2) = H.map (·.2) ++ [e] := by simp
 unfold hlL
 rw [he]
 exact ordE_uniq hu (hp.trans (ordE_perm _)) (ordE_srt _)
theorem look_held {N : Nat} {H : List (List Int × EvS)} (h : HldOK N H) (e : EvS) : (lookL H [e.rep, e.num]).isSome = true ↔ ∃ x ∈ hlL H, x.rep = e.rep ∧ x.num = e.num := by
 constructor
 ·intro h9
  obtain ⟨p, hp, hk⟩ := look_some h9
  rw [h.key p hp] at hk
  simp only [List.cons.injEq, and_true] at hk
  exact ⟨p.2, hl_mem.2 ⟨p, hp, rfl⟩, hk⟩
 ·rintro ⟨x, hx, h1, h2⟩
  obtain ⟨p, hp, rfl⟩ := hl_mem.1 hx
  cases h9 : lookL H [e.rep, e.num] with
  | none => exact absurd (by rw [h.key p hp, h1, h2]) (look_none h9 p hp)
  | some v => rfl
theorem addB_val {N : Nat} {c : List Int} {H : List (List Int × EvS)} (h : BufV N c H) (e : EvS) : BufV N (addB c H e).2.2.1 (addB c H e).2.2.2 := by
 unfold addB
 by_cases k1 : ¬ FormedE e ∨ e.past.length ≠ c.length
 ·rw [if_pos k1];exact h
 rw [if_neg k1]
 have k0 : FormedE e := Decidable.not_not.1 fun h9 => k1 (.inl h9)
 have k2 : e.past.length = c.length := Decidable.not_not.1 fun h9 => k1 (.inr h9)
 by_cases q1 : (lookL H [e.rep, e.num]).isSome = true ∨ HasC c e.rep e.num
 ·rw [if_pos q1];exact h
 rw [if_neg q1]
 have hlk : lookL H [e.rep, e.num] = none := by
  cases h9 : lookL H [e.rep, e.num] with
  | none => rfl
  | some v => exact absurd (.inl (by rw [h9];rfl)) q1
 by_cases q3 : RdyE c e
 ·rw [if_pos q3]
  have hb := h.next k0 [e.rep, e.num]
  have := stlF_ind (N := N) (fun d K _ => BufV N d K) (fun d K _ p _ h1 hp _ => h1.next (h1.fm p hp).1 _) ((delL H [e.rep, e.num]).length + 1) (cntF c e) (delL H [e.rep, e.num]) [] hb.hld hb
  exact this.2
 rw [if_neg q3]
 by_cases q4 : 256 ≤ H.length
 ·rw [if_pos q4];exact h
 rw [if_neg q4]
 refine ⟨h.val, h.len, h.hld.ins k0 (by rw [k2];exact h.len) hlk (by omega), fun p hp => ?_⟩
 simp only at hp
 rw [updL_none _ _ _ hlk] at hp
 rcases List.mem_append.1 hp with hp|hp
 ·exact h.fm p hp
 ·rw [List.mem_singleton.1 hp];exact ⟨k0, by rw [k2];exact h.len⟩
/-! ### A peer beside the reference's -/
structure TkI (m : ModS) (n : Nat) (b : NowS) (p : PrS) : Prop where
 base : p.s.base = b
 now : p.s.now = p.s.evs.foldl (behF m) b
 opn : OpnI m n b p.s.evs.length p.s.evs
 buf : BufV n p.c p.H
structure StI (m : ModS) (n : Nat) (b : NowS) (s : StoS) : Prop where
 base : s.base = b
 now : s.now = s.evs.foldl (behF m) b
 opn : OpnI m n b s.evs.length s.evs
theorem TkI.sto {m : ModS} {n : Nat} {b : NowS} {p : PrS} (h : TkI m n b p) : StI m n b p.s := ⟨h.base, h.now, h.opn⟩
theorem StI.step {m : ModS} {n : Nat} {b : NowS} {s : StoS} (hr : RefB m n b) (h : StI m n b s) {x : EvS} (hd : (deliverF m s.evs s.now x).1 = 0) : StI m n b ⟨s.base, s.evs ++ [x], (deliverF m s.evs s.now x).2⟩ := by
 rw [h.now] at hd ⊢
 obtain ⟨g1, g2⟩ := h.opn.step hr hd
 refine ⟨h.base, g2, ?_⟩
 simp only [List.length_append, List.length_cons, List.length_nil]
 exact g1
theorem StI.dlv {m : ModS} {n : Nat} {b : NowS} (hr : RefB m n b) : ∀ (X : List EvS) (s : StoS) (out : List EvS), StI m n b s → StI m n b (dlvF m X s out).2.1
 | [], s, out, h => h
 | x :: X, s, out, h => by
  simp only [dlvF]
  split
  ·rename_i hd
   exact StI.dlv hr X _ _ (h.step hr hd)
  ·exact h
theorem TkI.tak {m : ModS} {n : Nat} {b : NowS} (hr : RefB m n b) : ∀ (l : List EvS) (p : PrS) (out : List EvS), TkI m n b p → TkI m n b (takF m l p out).2.1
 | [], p, out, h => h
 | e :: l, p, out, h => by
  have hd := StI.dlv hr (addB p.c p.H e).2.1 p.s out h.sto
  have hb := addB_val h.buf e
  simp only [takF]
  split
  ·exact h
  ·split
   ·exact TkI.tak hr l _ _ ⟨hd.base, hd.now, hd.opn, hb⟩
   ·exact ⟨hd.base, hd.now, hd.opn, hb⟩
theorem TkI.take {m : ModS} {n : Nat} {b : NowS} (hr : RefB m n b) {l : List EvS} {p : PrS} (h : TkI m n b p) : TkI m n b (takeF m l p).2.1 := by
 unfold takeF
 split
 ·exact h
 ·exact h.tak hr l p []
end Go.Proofs.YtmllihbhphnolaaGreat
namespace Go.Proofs.YtmllihbhphnolaaGreat
open Go Go.CF
set_option maxRecDepth 20000
theorem ready33_p (c : List Int) (L : List EvS) (e : EvS) : CallP Tryz.prog 172 [.agg [ints c, evs L], evA' e] (bl (decide (Ins e.past c ∧ ¬ HasC c e.rep e.num))) := by
 have h1 := insideR_p e.past c
 have h2 := nameR_p e
 have h3 := hasR_p c e.rep e.num
 by_cases k1 : Ins e.past c
 ·rw [decide_eq_true k1] at h1
  by_cases k2 : HasC c e.rep e.num
  ·rw [decide_eq_true k2] at h3
   rw [decide_eq_false (fun h9 => h9.2 k2)]
   refine CallA.of pg ord172 Tryz.func172 rfl Tryz.ntmps172 Tryz.results172 rfl fun h0 G0 O0 => ?_
   repeat' (first|refine Sp.h ?_|refine Lk.r rfl ?_|refine Rf.mk rfl ?_|refine OpK.r rfl ?_|(refine All.mk ?_;intro _)|refine xT ?_|refine Ch.l ⟨rfl, rfl⟩ ?_|refine xN ?_|refine xD ?_|(apply Cl.p (h1);(focus ((repeat' (first|exact Lend.nil|apply Lend.keep|fail));done)))|(apply Cl.p (h2);(focus ((repeat' (first|exact Lend.nil|apply Lend.keep|fail));done)))|(apply Cl.p (h3);(focus ((repeat' (first|exact Lend.nil|apply Lend.keep|fail));done))))
   all_goals exact Fin.p rfl rfl
  ·rw [decide_eq_false k2] at h3
   rw [decide_eq_true ⟨k1, k2⟩]
   refine CallA.of pg ord172 Tryz.func172 rfl Tryz.ntmps172 Tryz.results172 rfl fun h0 G0 O0 => ?_
   repeat' (first|refine Sp.h ?_|refine Lk.r rfl ?_|refine Rf.mk rfl ?_|refine OpK.r rfl ?_|(refine All.mk ?_;intro _)|refine xT ?_|refine Ch.l ⟨rfl, rfl⟩ ?_|refine xN ?_|refine xD ?_|(apply Cl.p (h1);(focus ((repeat' (first|exact Lend.nil|apply Lend.keep|fail));done)))|(apply Cl.p (h2);(focus ((repeat' (first|exact Lend.nil|apply Lend.keep|fail));done)))|(apply Cl.p (h3);(focus ((repeat' (first|exact Lend.nil|apply Lend.keep|fail));done))))
   all_goals exact Fin.p rfl rfl
 ·rw [decide_eq_false k1] at h1
  rw [decide_eq_false (fun h9 => k1 h9.1)]
  refine CallA.of pg ord172 Tryz.func172 rfl Tryz.ntmps172 Tryz.results172 rfl fun h0 G0 O0 => ?_
  repeat' (first|refine Sp.h ?_|refine Lk.r rfl ?_|refine Rf.mk rfl ?_|refine OpK.r rfl ?_|(refine All.mk ?_;intro _)|refine xT ?_|refine xN ?_|refine xD ?_|(apply Cl.p (h1);(focus ((repeat' (first|exact Lend.nil|apply Lend.keep|fail));done)))|(apply Cl.p (h2);(focus ((repeat' (first|exact Lend.nil|apply Lend.keep|fail));done)))|(apply Cl.p (h3);(focus ((repeat' (first|exact Lend.nil|apply Lend.keep|fail));done))))
  all_goals exact Fin.p rfl rfl
theorem deliver33_p (c : List Int) (L : List EvS) (e : EvS) (x : Int) (h0' : 0 ≤ e.rep) (hx : c[e.rep.toNat]? = some x) (hc : c.length ≤ 1000) : CallP Tryz.prog 174 [.agg [ints c, evs L], evA' e] (.agg [ints (c.set e.rep.toNat e.num), evs L]) := by
 obtain ⟨q, hq⟩ : ∃ q : Nat, e.rep = q := ⟨e.rep.toNat, by omega⟩
 have hx' : c[q]? = some x := by rw [hq, Int.toNat_natCast] at hx;exact hx
 have hql := (List.getElem?_eq_some_iff.1 hx').1
 rw [show e.rep.toNat = q by omega]
 refine CallA.fx (K := fun r own => ∃ v, r = .agg [.ow v, evs L] ∧ own = [arrR v 3 1 (c.set q e.num) intC]) ?_ (by
  rintro _ _ ⟨v, rfl, rfl⟩
  refine FX.agg (cs' := [ints (c.set q e.num), evs L]) ?_ .nil
  (repeat' (first|exact FX.nil|(apply FX.s1;(focus repeat constructor);(focus first|omega|(simp;done)|(simp;omega)))|apply FX.k)))
 refine CallA.of pg ord174 Tryz.func174 rfl Tryz.ntmps174 Tryz.results174 rfl fun h0 G0 O0 => ?_
 repeat' (first|refine Sp.h ?_|refine Lk.r rfl ?_|refine Rf.mk rfl ?_|refine xP ?_|(refine All.mk ?_;intro _)|refine xU ?_|refine xT ?_|(apply Ix.r;(focus assumption);(focus omega))|refine xJ ?_|refine Ce.l rfl ?_|refine Ch.l ⟨rfl, rfl⟩ ?_|refine xV ?_|(apply SetAsk.r;focus repeat' constructor)|(apply Fk.r;focus repeat' first|infer_instance|constructor)|refine xN ?_|refine Rf.mk ⟨rfl, rfl⟩ ?_|refine Rf.mk ⟨rfl, rfl, rfl⟩ ?_|refine Up.r rfl ?_|refine Mp.same ?_|fail)
 exact ⟨_, [arrR _ 3 1 (c.set q e.num) intC], .one (.same (.z)), _, rfl, rfl⟩
end Go.Proofs.YtmllihbhphnolaaGreat
namespace Go.Proofs.YtmllihbhphnolaaGreat
open Go Go.CF
set_option maxRecDepth 20000
def setO : Nat → Ord × (Nat → Cls) := fun id => bif Nat.beq id 7 then (.one 1 (.one 2 (.one 3 (.one 4 (.one 6 (.one 8 (.one 9 (.alt 0 (.alt 5 (.one 7 (.one 10 (.one 11 (.one 12 (.one 13 .done))))) (.alt 7 (.one 10 (.one 5 (.one 11 (.one 12 (.one 13 .done))))) (.none))) (.alt 7 (.one 10 (.one 0 (.one 5 (.one 11 (.one 12 (.one 13 .done)))))) (.none))))))))), clOf [.ext, .pure, .read, .pure, .pure, .loud, .pure, .ext, .pure, .pure, .pure, .loud, .pure, .loud]) else bif Nat.beq id 8 then (.one 1 (.one 2 (.alt 0 (.one 3 (.one 4 (.one 5 (.one 6 (.one 7 (.one 8 (.one 9 .done))))))) (.alt 3 (.alt 0 (.one 4 (.one 5 (.one 6 (.one 7 (.one 8 (.one 9 .done)))))) (.alt 4 (.one 0 (.one 5 (.one 6 (.one 7 (.one 8 (.one 9 .done)))))) (.none))) (.none)))), clOf [.ext, .pure, .read, .ext, .loud, .loud, .pure, .pure, .loud, .pure]) else (.done, clOf [])
set_option maxHeartbeats 8000000 in
theorem settle33_a (N : Nat) (hN : N ≤ 5) (n : Nat) : ∀ (H : List (List Int × EvS)) (c : List Int) (out : List EvS) (v : Value), H.length = n → BufV N c H → out.length + H.length ≤ 10000 →
  CallA Tryz.prog 173 [.agg [ints c, evs (hlL H)], .ow v] [arrR v 37 13 out evC] fun r own => ∃ v', r = .tup [.agg [ints (stlF (n + 1) c H out).2.1, evs (hlL (stlF (n + 1) c H out).2.2)], .ow v'] ∧ own = [arrR v' 37 13 (stlF (n + 1) c H out).1 evC] := by
 induction n using Nat.strongRecOn with
 | ind n ih =>
 intro H c out v hn hb ho
 obtain ⟨res, hres⟩ : ∃ res, res = stlF (n + 1) c H out := ⟨_, rfl⟩
 rw [← hres]
 obtain ⟨L, hL⟩ : ∃ L, L = hlL H := ⟨_, rfl⟩
 have hLl : L.length = H.length := by rw [hL, hl_len]
 have hHl := hb.hld.len
 rw [← hL]
 refine CallA.of pg setO Tryz.func173 rfl Tryz.ntmps173 Tryz.results173 rfl fun h0 G0 O0 => ?_
 repeat' (first|refine Sp.h ?_|refine Lk.r rfl ?_|refine Rf.mk rfl ?_|(refine All.mk ?_;intro _)|refine xN ?_|fail)
 rename_i b2 b4
 refine CA.loop (fun i : Nat => ⟨[(1, .ow v), (2, pm b2), (4, pm b4), (6, it i)], [arrR v 37 13 out evC, blkR b2 65 [ints c, evs L], blkR b4 65 [nl0, nl0]]⟩)
  (fun i => i ≤ L.length ∧ ∀ j y, j < i → L[j]? = some y → rdyB c y = false) (fun i => L.length - i) 0 xE ⟨Nat.zero_le _, fun j y h => by omega⟩ ?_
 rintro i ⟨hi, hj⟩
 by_cases hin : i < L.length
 rotate_left
 ·have hie : i = L.length := by omega
  have hr : res = (out, c, H) := by
   rw [hres]
   simp only [stlF]
   rw [show ordE (H.map (·.2)) = L from hL.symm, idxN_none (fun x hx => by obtain ⟨j, hx⟩ := List.getElem?_of_mem hx;exact hj j x (by have := (List.getElem?_eq_some_iff.1 hx).1;omega) hx), List.getElem?_eq_none (Nat.le_refl _)]
  rw [hr]
  simp only [← hL]
  repeat' (first|refine Sp.h ?_|refine Lk.r rfl ?_|refine Rf.mk rfl ?_|refine xB ?_|(refine Im.mk ?_;intro _)|refine xT ?_|refine Ch.l ⟨rfl, rfl⟩ ?_|(apply SetAsk.r;focus repeat' constructor)|refine xN ?_|fail)
  exact ⟨_, [arrR v 37 13 out evC], .tup (.same (.same (.z))), _, rfl, rfl⟩
 obtain ⟨e, he⟩ := get_of hin
 obtain ⟨hf, hfl⟩ := hb.mem (hL ▸ List.mem_of_getElem? he)
 have hrd := ready33_p c L e
 by_cases hR : RdyE c e
 rotate_left
 ·rw [decide_eq_false (fun h9 => hR ((rdy_both hb hf hfl).1 h9))] at hrd
  repeat' (first|refine Sp.h ?_|refine Lk.r rfl ?_|refine Rf.mk rfl ?_|refine xA ?_|(refine Im.mk ?_;intro _)|(refine All.mk ?_;intro _)|refine xT ?_|refine xI ?_|refine Ch.l ⟨rfl, rfl⟩ ?_|(apply SetAsk.r;focus repeat' constructor)|refine xN ?_|refine xO ?_|(apply Cl.p (hrd);(focus repeat' (first|exact Lend.nil|apply Lend.keep|fail))))
  exact PA.lp (i + 1) xE ⟨⟨hin, fun j y h1 h2 => by
   by_cases hij : j = i
   ·subst hij;rw [he] at h2;cases h2;exact decide_eq_false hR
   ·exact hj j y (by omega) h2⟩, by omega⟩
 obtain ⟨r1, r2⟩ := (rdy_both hb hf hfl).2 hR
 rw [decide_eq_true ⟨r1, r2⟩] at hrd
 obtain ⟨f1, f2, f3⟩ := formed_rep hf
 obtain ⟨x, hx⟩ := get_of (l := c) (i := e.rep.toNat) (by rw [hb.len, ← hfl];exact f2)
 have hd := deliver33_p c L e x f1 hx (by have := hb.len;omega)
 rw [← cnt_set hb hf hfl r2] at hd
 obtain ⟨p, hp, hpe⟩ := hl_mem.1 (hL ▸ List.mem_of_getElem? he)
 have hdl := delL_len (k := [e.rep, e.num]) ⟨p, hp, by rw [hb.hld.key p hp, hpe]⟩
 have hidx : idxN (rdyB c) (hlL H) = i := by
  rw [← hL]
  exact idxN_of he (decide_eq_true hR) hj
 have hr : res = stlF n (cntF c e) (delL H [e.rep, e.num]) (out ++ [e]) := by
  rw [hres]
  simp only [stlF]
  rw [show idxN (rdyB c) (ordE (H.map (·.2))) = i from hidx, show (ordE (H.map (·.2)))[i]? = some e by rw [← he, hL]]
 have her := hl_erase hb.hld (hL ▸ he)
 rw [← hL] at her
 have hm : (delL H [e.rep, e.num]).length + 1 = n := by omega
 have hrec := fun v' => ih (delL H [e.rep, e.num]).length (by omega) (delL H [e.rep, e.num]) (cntF c e) (out ++ [e]) v' rfl (hb.next hf _) (by simp;omega)
 rw [hm, ← hr] at hrec
 have e1 : [] ++ List.take (i - 0) (List.drop 0 L) ++ List.take (L.length - (i + 1)) (List.drop (i + 1) L) = hlL (delL H [e.rep, e.num]) := by
  rw [her, List.take_of_length_le (l := List.drop (i + 1) L) (by rw [List.length_drop];exact Nat.le_refl _)]
  simp
 rw [← e1] at hrec
 (repeat' (first|(show CA _ _ (Code.region 8 _ _) _ _;apply Stopped.out)|refine Sp.h ?_|refine Lk.r rfl ?_|refine Rf.mk rfl ?_|refine xA ?_|refine OpK.r rfl ?_|refine xP ?_|(refine Im.mk ?_;intro _)|(refine All.mk ?_;intro _)|refine xU ?_|refine xT ?_|refine xI ?_|refine Ce.l rfl ?_|refine Ce.r ?_|refine Ch.l ⟨rfl, rfl⟩ ?_|refine xV ?_|(apply SetAsk.r;focus repeat' constructor)|(apply Fk.r;focus repeat' first|infer_instance|constructor)|refine xN ?_|refine Rf.mk ⟨rfl, rfl⟩ ?_|refine Rf.mk ⟨rfl, rfl, rfl⟩ ?_|(apply Jx.r;(focus exact rfl);(focus first|omega|(simp;done)|(simp;omega)))|refine Mp.same ?_|refine xD ?_|exact trivial|apply RA'.both|refine xO ?_|(apply Cl.p (hrd);(focus ((repeat' (first|exact Lend.nil|apply Lend.keep|fail));done)))|(apply Cl.p (hd);(focus ((repeat' (first|exact Lend.nil|apply Lend.keep|fail));done)))));any_goals apply Stopped.mk
 all_goals (apply CA.own;(focus (apply OX.blk (b := b2);(focus repeat constructor);(focus (repeat' (first|exact FX.nil|(apply FX.s1;(focus repeat constructor);(focus first|omega|(simp;done)|(simp;omega)))|apply FX.k)));(focus repeat constructor))))
 all_goals repeat' (first|refine Sp.h ?_|refine Lk.r rfl ?_|refine Rf.mk rfl ?_|refine OpK.r rfl ?_|refine xP ?_|(refine All.mk ?_;intro _)|refine xU ?_|refine xT ?_|refine Ce.r ?_|refine Ch.l ⟨rfl, rfl⟩ ?_|(apply Fk.r;focus repeat' first|infer_instance|constructor)|refine Rf.mk ⟨rfl, rfl⟩ ?_|refine Rf.mk ⟨rfl, rfl, rfl⟩ ?_|(apply Mp.lit;(focus repeat (first|exact MpL.nil|(apply MpL.cons;(focus rfl))|(apply MpL.inv;(focus repeat constructor);(focus infer_instance)))))|refine xD ?_|exact trivial|apply RA'.both|fail)
 all_goals refine xW (hrec _) ?_
 all_goals rintro _ _ ⟨w, rfl, rfl⟩
 all_goals repeat' (first|refine Sp.h ?_|refine Lk.r rfl ?_|refine Rf.mk rfl ?_|refine OpK.r rfl ?_|refine xT ?_|(apply SetAsk.r;focus repeat' constructor)|refine xN ?_|fail)
 all_goals exact ⟨_, [arrR w 37 13 res.1 evC], .tup (.same (.same (.z))), w, rfl, rfl⟩
end Go.Proofs.YtmllihbhphnolaaGreat
namespace Go.CF
open Go
theorem CallA.re1 {α β : Type} {P : Program} {fn : FuncId} {xs : List AV} {o : List Res} {K : AV → List Res → Prop} {v : Value} {T sz : Nat} {l : List α} {f : α → List AV} {m : List β} {g : β → List AV} (he : m.map g = l.map f) (h : CallA P fn xs (arrR v T sz m g :: o) K) : CallA P fn xs (arrR v T sz l f :: o) K := by
 refine ⟨fun hh G Os vs h1 h2 => ?_⟩
 cases Os with
 | nil => exact absurd h2.own (by simp [OwnL])
 | cons O os =>
  obtain ⟨⟨ho, rows, hw, hr⟩, hrest⟩ := h2.own
  have hlen : m.length = l.length := by have := congrArg List.length he;simpa using this
  exact h.run hh G (O :: os) vs h1 (h2.perm ⟨⟨ho, rows, by rw [hlen];exact hw, hr.map he⟩, hrest⟩ (List.Perm.refl _))
section
variable {Γ : Cx} {e : EA} {o : List Res}
instance {a b d : Tmp} {ty : TypeId} {k : AV → Prop} : Sp (ResX Γ e o [.cell a ty, .tmp b, .tmp d] k) (Lk (lookA e a) fun x => Lk (lookA e b) fun y => Lk (lookA e d) fun z => CelX Γ e o x ty fun q => k (.tup [q, y, z])) := ⟨fun ⟨x, h1, y, hy, z, hz, cs, h2, h3⟩ => ⟨.tup [.agg cs, y, z], h2, fun hr env h G Os cn => by
 obtain ⟨v, g1, g2⟩ := cn.env a x h1
 obtain ⟨v2, g5, g6⟩ := cn.env b y hy
 obtain ⟨v3, g7, g8⟩ := cn.env d z hz
 obtain ⟨p, vs, ti, fs, rfl, t1, t2, t3, g3, g4⟩ := h3 env h G Os v cn g2
 have hrs : Γ.rs = #[.cell a ty, .tmp b, .tmp d] := Array.ext' hr
 refine ⟨.tuple #[.agg vs.toArray, v2, v3], ?_, [_, _, _], rfl, ⟨vs, rfl, g4⟩, g6, g8, trivial⟩
 rw [hrs]
 exact ResOK.cell2 Γ.ok t1 t2 g1 g3 t3 g5 g7⟩⟩
end
end Go.CF
namespace Go.Proofs.YtmllihbhphnolaaGreat
open Go Go.CF
set_option maxRecDepth 20000
def ad3O : Nat → Ord × (Nat → Cls) := fun id => bif Nat.beq id 3 then (.one 0 (.one 1 (.one 2 (.one 3 (.one 4 (.one 5 .done))))), clOf [.pure, .read, .read, .ext, .loud, .pure]) else bif Nat.beq id 7 then (.one 0 (.one 1 (.one 2 (.one 3 (.one 4 (.one 5 (.one 6 (.one 8 (.one 7 (.one 9 (.one 10 (.one 11 (.one 12 .done)))))))))))), clOf [.pure, .pure, .pure, .read, .pure, .pure, .read, .ext, .read, .loud, .pure, .pure, .pure]) else bif Nat.beq id 11 then (.one 0 (.one 1 (.one 3 (.alt 2 (.alt 4 (.alt 5 (.one 6 (.one 7 (.one 8 (.one 9 (.one 10 (.one 11 .done)))))) (.alt 9 (.one 5 (.one 6 (.one 7 (.one 8 (.one 10 (.one 11 .done)))))) (.none))) (.alt 9 (.one 4 (.one 5 (.one 6 (.one 7 (.one 8 (.one 10 (.one 11 .done))))))) (.none))) (.alt 4 (.alt 2 (.alt 5 (.one 6 (.one 7 (.one 8 (.one 9 (.one 10 (.one 11 .done)))))) (.alt 9 (.one 5 (.one 6 (.one 7 (.one 8 (.one 10 (.one 11 .done)))))) (.none))) (.alt 9 (.one 2 (.one 5 (.one 6 (.one 7 (.one 8 (.one 10 (.one 11 .done))))))) (.none))) (.alt 9 (.alt 2 (.one 4 (.one 5 (.one 6 (.one 7 (.one 8 (.one 10 (.one 11 .done))))))) (.alt 4 (.one 2 (.one 5 (.one 6 (.one 7 (.one 8 (.one 10 (.one 11 .done))))))) (.none))) (.none)))))), clOf [.read, .read, .ext, .read, .ext, .loud, .pure, .pure, .pure, .ext, .loud, .pure]) else bif Nat.beq id 15 then (.one 1 (.one 2 (.alt 0 (.alt 3 (.one 4 (.one 5 (.one 6 (.one 7 (.one 8 (.one 9 .done)))))) (.alt 4 (.alt 3 (.one 5 (.one 6 (.one 7 (.one 8 (.one 9 .done))))) (.alt 5 (.one 3 (.one 6 (.one 7 (.one 8 (.one 9 .done))))) (.none))) (.none))) (.alt 4 (.alt 0 (.alt 3 (.one 5 (.one 6 (.one 7 (.one 8 (.one 9 .done))))) (.alt 5 (.one 3 (.one 6 (.one 7 (.one 8 (.one 9 .done))))) (.none))) (.alt 5 (.one 0 (.one 3 (.one 6 (.one 7 (.one 8 (.one 9 .done)))))) (.none))) (.none)))), clOf [.ext, .pure, .read, .loud, .ext, .ext, .loud, .loud, .pure, .loud]) else (.done, clOf [])
noncomputable abbrev rbC (c : List Int) (H : List (List Int × EvS)) : List AV := [ints c, evs (hlL H)]
def KnE (c : List Int) (L : List EvS) (e : EvS) (i : Nat) : Prop := HasC c e.rep e.num ∨ ∃ x ∈ L.take i, x.rep = e.rep ∧ x.num = e.num
noncomputable instance (c : List Int) (L : List EvS) (e : EvS) (i : Nat) : Decidable (KnE c L e i) := Classical.propDecidable _
theorem knE_zero (c : List Int) (L : List EvS) (e : EvS) : decide (HasC c e.rep e.num) = decide (KnE c L e 0) := decide_eq_decide.2 ⟨.inl, fun h => h.elim id fun ⟨_, h, _⟩ => by simp at h⟩
theorem knE_succ {c : List Int} {L : List EvS} {e : EvS} {i : Nat} {x : EvS} (hx : L[i]? = some x) : KnE c L e (i + 1) ↔ KnE c L e i ∨ (x.rep = e.rep ∧ x.num = e.num) := by
 unfold KnE
 rw [List.take_add_one, hx, Option.toList_some, or_assoc]
 refine or_congr Iff.rfl ?_
 simp only [List.mem_append, List.mem_singleton]
 constructor
 ·rintro ⟨y, hy|rfl, h⟩
  ·exact .inl ⟨y, hy, h⟩
  ·exact .inr h
 ·rintro (⟨y, hy, h⟩|h)
  ·exact ⟨y, .inl hy, h⟩
  ·exact ⟨x, .inr rfl, h⟩
theorem add33_id {c : List Int} {H : List (List Int × EvS)} {e : EvS} {k : Int} (h : CallP Tryz.prog 112 [.agg (rbC c H), evA' e] (.tup [.agg (rbC c H), nl0, it k])) : CallP Tryz.prog 112 [.agg (rbC c H), evA' e] (.tup [.agg (rbC c H), evs [], it k]) :=
 CallA.conv (.tup (.cons (ALe.refl _) (.cons ALe.nil (.cons (ALe.refl _) .nil)))) h
set_option maxHeartbeats 8000000 in
theorem add33_p (N : Nat) (c : List Int) (H : List (List Int × EvS)) (e : EvS) (hN : N ≤ 5) (hb : BufV N c H) : CallP Tryz.prog 112 [.agg (rbC c H), evA' e] (.tup [.agg (rbC (addB c H e).2.2.1 (addB c H e).2.2.2), evs (addB c H e).2.1, it (addB c H e).1]) := by
 have h1 := formedR_p e
 have h2 := nameR_p e
 have h3 := hasR_p c e.rep e.num
 have hHl := hb.hld.len
 obtain ⟨L, hL⟩ : ∃ L, L = hlL H := ⟨_, rfl⟩
 have hLl : L.length = H.length := by rw [hL, hl_len]
 by_cases k0 : FormedE e
 rotate_left
 ·have hr : addB c H e = (1, [], c, H) := if_pos (.inl k0)
  rw [hr]
  refine add33_id ?_
  simp only [rbC, ← hL]
  rw [decide_eq_false k0] at h1
  refine CallA.of pg ord112 Tryz.func112 rfl Tryz.ntmps112 Tryz.results112 rfl fun h0 G0 O0 => ?_
  repeat' (first|refine Sp.h ?_|refine Lk.r rfl ?_|refine Rf.mk rfl ?_|refine xB ?_|(refine All.mk ?_;intro _)|refine xT ?_|refine Ch.l ⟨rfl, rfl⟩ ?_|(apply SetAsk.r;focus repeat' constructor)|refine xN ?_|(apply Cl.p (h1);(focus repeat' (first|exact Lend.nil|apply Lend.keep|fail))))
  all_goals exact Fin.p rfl rfl
 rw [decide_eq_true k0] at h1
 by_cases k2 : e.past.length = c.length
 rotate_left
 ·have hr : addB c H e = (1, [], c, H) := if_pos (.inr k2)
  rw [hr]
  refine add33_id ?_
  simp only [rbC, ← hL]
  have k3 : ¬ (e.past.length : Int) = (c.length : Int) := by omega
  refine CallA.of pg ord112 Tryz.func112 rfl Tryz.ntmps112 Tryz.results112 rfl fun h0 G0 O0 => ?_
  repeat' (first|refine Sp.h ?_|refine Lk.r rfl ?_|refine Rf.mk rfl ?_|refine xA ?_|refine xB ?_|(refine Im.mk ?_;intro _)|(refine All.mk ?_;intro _)|refine xT ?_|refine Ch.l ⟨rfl, rfl⟩ ?_|(apply SetAsk.r;focus repeat' constructor)|refine xN ?_|(apply Cl.p (h1);(focus repeat' (first|exact Lend.nil|apply Lend.keep|fail))))
  all_goals exact Fin.p rfl rfl
 have k3 : (e.past.length : Int) = (c.length : Int) := by omega
 have k1 : ¬ (¬ FormedE e ∨ e.past.length ≠ c.length) := fun h9 => h9.elim (fun h8 => h8 k0) fun h8 => h8 k2
 obtain ⟨res, hres⟩ : ∃ res, res = addB c H e := ⟨_, rfl⟩
 rw [← hres]
 have hlk : (lookL H [e.rep, e.num]).isSome = true ↔ ∃ x ∈ L, x.rep = e.rep ∧ x.num = e.num := by rw [hL];exact look_held hb.hld e
 refine CallA.fxr (K := fun r own => ∃ a, r = .tup [.agg (rbC res.2.2.1 res.2.2.2), a, it res.1] ∧ ((a = nl0 ∧ res.2.1 = [] ∧ own = []) ∨ ∃ v, a = .ow v ∧ res.2.1.length ≤ 1000 ∧ own = [arrR v 37 13 res.2.1 evC])) ?_ (by
  rintro _ _ ⟨a, rfl, ⟨rfl, h9, rfl⟩|⟨v, rfl, h9, rfl⟩⟩
  ·rw [h9];exact ⟨_, _, .tup (.k (.kn (.k .nil))) .nil, rfl, rfl⟩
  ·exact ⟨_, _, .tup (.k (.s1 .here (by omega) (.k .nil))) .nil, rfl, rfl⟩)
 refine CallA.of pg ad3O Tryz.func112 rfl Tryz.ntmps112 Tryz.results112 rfl fun h0 G0 O0 => ?_
 simp only [rbC, ← hL]
 rw [knE_zero c L e] at h3
 repeat' (first|refine Sp.h ?_|refine Lk.r rfl ?_|refine Rf.mk rfl ?_|refine xA ?_|refine OpK.r rfl ?_|(refine Im.mk ?_;intro _)|(refine All.mk ?_;intro _)|refine xT ?_|refine Ch.l ⟨rfl, rfl⟩ ?_|refine xN ?_|refine xD ?_|(apply Cl.p (h1);(focus ((repeat' (first|exact Lend.nil|apply Lend.keep|fail));done)))|(apply Cl.p (h2);(focus ((repeat' (first|exact Lend.nil|apply Lend.keep|fail));done)))|(apply Cl.p (h3);(focus ((repeat' (first|exact Lend.nil|apply Lend.keep|fail));done))))
 rename_i b2 b3 b4 _ _
 refine CA.loop (fun i : Nat => ⟨[(2, pm b2), (3, pm b3), (4, pm b4), (7, bl (decide (KnE c L e i))), (8, it i)], [blkR b2 65 [ints c, evs L], blkR b3 37 (evC e), blkR b4 65 [nl0, nl0]]⟩)
  (fun i => i ≤ L.length) (fun i => L.length - i) 0 xE (Nat.zero_le _) ?_
 intro i hi
 by_cases hin : i < L.length
 ·obtain ⟨x, hx⟩ := get_of hin
  have h4 := nameR_p x
  have hs := knE_succ (c := c) (e := e) hx
  by_cases hk : KnE c L e i
  ·have hk2 : decide (KnE c L e (i + 1)) = decide (KnE c L e i) := by rw [decide_eq_true hk, decide_eq_true (hs.2 (.inl hk))]
   rw [decide_eq_true hk]
   repeat' (first|refine Sp.h ?_|refine Lk.r rfl ?_|refine Rf.mk rfl ?_|refine xA ?_|refine OpK.r rfl ?_|(refine Im.mk ?_;intro _)|refine xT ?_|refine xD ?_|refine xO ?_|(apply Cl.p (h4);(focus ((repeat' (first|fail));done)))|(apply Cl.p (h2);(focus ((repeat' (first|fail));done))))
   all_goals exact PA.lp (i + 1) (by rw [hk2, decide_eq_true hk];exact xE) ⟨hin, by omega⟩
  ·rw [decide_eq_false hk]
   have hk2 : decide (KnE c L e (i + 1)) = decide ([x.rep, x.num] = [e.rep, e.num]) := decide_eq_decide.2 (hs.trans ⟨fun h => h.elim (fun h => absurd h hk) fun h => by rw [h.1, h.2], fun h => .inr (by simp only [List.cons.injEq, and_true] at h;exact h)⟩)
   repeat' (first|refine Sp.h ?_|refine Lk.r rfl ?_|refine Rf.mk rfl ?_|refine xA ?_|refine OpK.r rfl ?_|(refine Im.mk ?_;intro _)|refine xT ?_|refine xI ?_|refine Ch.l ⟨rfl, rfl⟩ ?_|refine xK ?_|(apply Kf.mk;(focus kernel_rfl))|refine xD ?_|refine xO ?_|(apply Cl.p (h4);(focus ((repeat' (first|exact Lend.nil|apply Lend.keep|apply Lend.agg|fail));done)))|(apply Cl.p (h2);(focus ((repeat' (first|exact Lend.nil|apply Lend.keep|apply Lend.agg|fail));done))))
   all_goals exact PA.lp (i + 1) (by rw [hk2];exact xE) ⟨hin, by omega⟩
 have hie : i = L.length := by omega
 subst hie
 have hkn : KnE c L e L.length ↔ ((lookL H [e.rep, e.num]).isSome = true ∨ HasC c e.rep e.num) := by
  unfold KnE
  rw [List.take_length, hlk, or_comm]
 by_cases q1 : KnE c L e L.length
 ·have hr : res = (6, [], c, H) := by rw [hres, addB, if_neg k1, if_pos (hkn.1 q1)]
  rw [hr]
  simp only [← hL]
  rw [decide_eq_true q1]
  repeat' (first|refine Sp.h ?_|refine Lk.r rfl ?_|refine Rf.mk rfl ?_|refine xB ?_|(refine Im.mk ?_;intro _)|refine xT ?_|refine Ch.l ⟨rfl, rfl⟩ ?_|(apply SetAsk.r;focus repeat' constructor)|refine xN ?_|fail)
  exact ⟨_, [], .tup (.same (.same (.same (.z)))), nl0, rfl, .inl ⟨rfl, trivial, rfl⟩⟩
 have q2 : ¬ ((lookL H [e.rep, e.num]).isSome = true ∨ HasC c e.rep e.num) := fun h9 => q1 (hkn.2 h9)
 rw [decide_eq_false q1]
 have q0 : ¬ HasC c e.rep e.num := fun h9 => q2 (.inr h9)
 have hlo : lookL H [e.rep, e.num] = none := by
  cases h9 : lookL H [e.rep, e.num] with
  | none => rfl
  | some v => exact absurd (.inl (by rw [h9];rfl)) q2
 have hel : e.past.length = N := by rw [k2, hb.len]
 have hrd := ready33_p c L e
 by_cases q3 : RdyE c e
 ·obtain ⟨r1, r2⟩ := (rdy_both hb k0 hel).2 q3
  rw [decide_eq_true ⟨r1, r2⟩] at hrd
  obtain ⟨f1, f2, f3⟩ := formed_rep k0
  obtain ⟨x, hx⟩ := get_of (l := c) (i := e.rep.toNat) (by rw [hb.len, ← hel];exact f2)
  have hd := deliver33_p c L e x f1 hx (by have := hb.len;omega)
  rw [← cnt_set hb k0 hel r2] at hd
  have hdn : delL H [e.rep, e.num] = H := del_none (look_none hlo)
  have hb2 : BufV N (cntF c e) H := by have := hb.next k0 [e.rep, e.num];rwa [hdn] at this
  obtain ⟨S, hS⟩ : ∃ S, S = stlF (H.length + 1) (cntF c e) H [e] := ⟨_, rfl⟩
  have hr : res = (0, S.1, S.2.1, S.2.2) := by
   rw [hres, addB, if_neg k1, if_neg q2, if_pos q3, hdn, hS, stlF_out _ _ _ [e]]
   rfl
  have hset : ∀ v, CallA Tryz.prog 173 [.agg [ints (cntF c e), evs L], .ow v] [arrR v 37 13 (chunk 13 1 (evC e)) id] fun r own => ∃ v', r = .tup [.agg [ints S.2.1, evs (hlL S.2.2)], .ow v'] ∧ own = [arrR v' 37 13 S.1 evC] := fun v => by
   have h9 := settle33_a N hN H.length H (cntF c e) [e] v rfl hb2 (by simp;omega)
   rw [← hS, ← hL] at h9
   exact CallA.re1 (by simp [chunk];rfl) h9
  have hSl : S.1.length ≤ 1000 := by
   have h9 := stlF_len (H.length + 1) (cntF c e) H [e]
   rw [← hS] at h9
   simp only [List.length_cons, List.length_nil] at h9
   omega
  rw [hr]
  repeat' (first|refine Sp.h ?_|refine Lk.r rfl ?_|refine Rf.mk rfl ?_|refine xB ?_|refine OpK.r rfl ?_|(refine Im.mk ?_;intro _)|(refine All.mk ?_;intro _)|refine xT ?_|refine Ch.l ⟨rfl, rfl⟩ ?_|(apply SetAsk.r;focus repeat' constructor)|(apply Fk.r;focus repeat' first|infer_instance|constructor)|refine xN ?_|refine Rf.mk ⟨rfl, rfl, rfl⟩ ?_|refine xD ?_|exact trivial|apply RA'.both|(apply Cl.p (hrd);(focus repeat' (first|exact Lend.nil|apply Lend.keep|fail)))|(apply Cl.p (hd);(focus repeat' (first|exact Lend.nil|apply Lend.keep|fail)))|(((apply Cl.use (hset _);(focus repeat' (first|exact Lend.nil|apply Lend.keep|fail));(focus (repeat (first|exact Takes.nil|(apply Takes.cons;(focus repeat constructor)))));(focus rfl)));(rintro _ _ ⟨w, rfl, rfl⟩)))
  all_goals exact ⟨_, [arrR w 37 13 S.1 evC], .tup (.same (.same (.same (.z)))), _, rfl, .inr ⟨w, rfl, hSl, rfl⟩⟩
 rw [decide_eq_false (fun h9 => q3 ((rdy_both hb k0 hel).1 h9))] at hrd
 by_cases q4 : 256 ≤ H.length
 ·have hr : res = (8, [], c, H) := by rw [hres, addB, if_neg k1, if_neg q2, if_neg q3, if_pos q4]
  rw [hr]
  simp only [← hL]
  repeat' (first|refine Sp.h ?_|refine Lk.r rfl ?_|refine Rf.mk rfl ?_|refine xA ?_|refine xB ?_|(refine Im.mk ?_;intro _)|refine xT ?_|refine Ch.l ⟨rfl, rfl⟩ ?_|(apply SetAsk.r;focus repeat' constructor)|refine xN ?_|(apply Cl.p (hrd);(focus repeat' (first|exact Lend.nil|apply Lend.keep|fail))))
  all_goals exact ⟨_, [], .tup (.same (.same (.same (.z)))), nl0, rfl, .inl ⟨rfl, trivial, rfl⟩⟩
 have hr : res = (0, [], c, updL H [e.rep, e.num] e) := by rw [hres, addB, if_neg k1, if_neg q2, if_neg q3, if_neg q4]
 obtain ⟨i1, i2⟩ := hl_ins hb.hld hlo
 have hor := order32_p (hlL H ++ [e]) i1 (by rw [List.length_append, hl_len];simp;omega)
 rw [i2, ← hL] at hor
 obtain ⟨L2, hL2⟩ : ∃ L2, L2 = hlL (updL H [e.rep, e.num] e) := ⟨_, rfl⟩
 rw [← hL2] at hor
 rw [hr]
 simp only [← hL2]
 (repeat' (first|(show CA _ _ (Code.region 15 _ _) _ _;apply Stopped.out)|refine Sp.h ?_|refine Lk.r rfl ?_|refine Rf.mk rfl ?_|refine xB ?_|(refine Im.mk ?_;intro _)|refine xT ?_|refine Ch.l ⟨rfl, rfl⟩ ?_|(apply Cl.p (hrd);(focus repeat' (first|exact Lend.nil|apply Lend.keep|fail)))));any_goals apply Stopped.mk
 repeat' (first|refine Sp.h ?_|refine Lk.r rfl ?_|refine Rf.mk rfl ?_|refine OpK.r rfl ?_|refine xP ?_|(refine All.mk ?_;intro _)|refine xU ?_|refine xT ?_|refine Ce.l rfl ?_|refine Ce.r ?_|refine Ch.l ⟨rfl, rfl⟩ ?_|refine xV ?_|(apply SetAsk.r;focus repeat' constructor)|(apply Fk.r;focus repeat' first|infer_instance|constructor)|refine xN ?_|refine Rf.mk ⟨rfl, rfl⟩ ?_|refine Rf.mk ⟨rfl, rfl, rfl⟩ ?_|refine Mp.same ?_|(apply Mp.lit;(focus repeat (first|exact MpL.nil|(apply MpL.cons;(focus rfl))|(apply MpL.inv;(focus repeat constructor);(focus infer_instance)))))|refine xD ?_|exact trivial|apply RA'.both|(((apply Cl.fz;(focus repeat' (first|exact FZ.nil|(apply FZ.fz;(focus repeat constructor);(focus first|omega|decide|exact Nat.le_of_ble_eq_true rfl|(simp <;> omega)))|apply FZ.agg|apply FZ.same))));((apply Cl.p (hor);(focus repeat' (first|exact Lend.nil|apply Lend.keep|fail))))))
 all_goals exact ⟨_, [], .tup (.same (.same (.same (.z)))), nl0, rfl, .inl ⟨rfl, trivial, rfl⟩⟩
end Go.Proofs.YtmllihbhphnolaaGreat
