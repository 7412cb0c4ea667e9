/- Part 13 of the ground of this proof: what its texts say of the model, the program and the plain data; conditions: those that are named. -/
import Derived.Test.YtmllihbhphnolaaGreatP12
namespace Go.Proofs.YtmllihbhphnolaaGreat
open Go Go.CF
set_option maxRecDepth 20000
theorem alike31_t (l : List (List Int)) (hl : 0 < l.length) (d : List Int) (hd : l[0]? = some d) (h : ∀ c ∈ l, ValC c ∧ c.length = d.length) : CallP Tryz.prog 246 [clks l] (bl true) := by
 refine CallA.of pg ord246 Tryz.func246 rfl Tryz.ntmps246 Tryz.results246 rfl fun h0 G0 O0 => ?_
 repeat' (first|refine Sp.h ?_|refine Lk.r rfl ?_|refine Rf.mk rfl ?_|fail)
 refine CA.loop (fun i : Nat => ⟨[(0, clks l), (3, it i)], []⟩) (fun i => i ≤ l.length) (fun i => l.length - i) 0 ⟨by repeat first|trivial|refine ⟨rfl,?_⟩,by repeat first|exact .nil|refine .cons (by repeat constructor) ?_⟩ (Nat.zero_le _) ?_
 intro i hi
 by_cases hin : i < l.length
 ·obtain ⟨c, hc⟩ := get_of hin
  obtain ⟨h1, h2⟩ := h c (List.mem_of_getElem? hc)
  have hv := validR_p c
  rw [decide_eq_true h1] at hv
  repeat' (first|refine Sp.h ?_|refine Lk.r rfl ?_|refine Rf.mk rfl ?_|(apply Bd.t;(focus first|assumption|omega|rfl))|refine OpK.r rfl ?_|(refine Im.mk ?_;intro _)|(apply Ix.q;(focus exact rfl);(focus assumption))|(apply CA.draw;(focus rfl);(focus kernel_rfl);(focus kernel_rfl);(focus repeat' constructor);(focus rfl))|(apply Ov.n;(focus first|omega|(simp <;> omega)))|(apply Cl.p (hv);(focus repeat' (first|exact Lend.nil|apply Lend.keep|fail))))
  all_goals exact PA.lp (i + 1) ⟨by repeat first|trivial|refine ⟨rfl,?_⟩,by repeat first|exact .nil|refine .cons (by repeat constructor) ?_⟩ ⟨hin, by omega⟩
 ·have hie : i = l.length := by omega
  subst hie
  repeat' (first|refine Sp.h ?_|refine Lk.r rfl ?_|refine Rf.mk rfl ?_|(apply Bd.f;(focus first|assumption|omega|exact Bool.false_ne_true))|(refine Im.mk ?_;intro _)|(apply Nm.r;focus repeat constructor)|fail)
  all_goals exact Fin.p rfl (vb (decide_eq_true (by omega)))
theorem mix_at {a z : List Int} {k : Nat} {x y : Int} (hl : z.length = a.length) (hx : a[k]? = some x) (hy : z[k]? = some y) : (z.take k ++ a.drop k)[k]? = some x ∧ (z.take k ++ a.drop k).set k y = z.take (k + 1) ++ a.drop (k + 1) := by
 have hk := (List.getElem?_eq_some_iff.1 hx).1
 have h1 : (z.take k).length = k := by rw [List.length_take];omega
 have h2 := List.drop_eq_getElem_cons hk
 rw [(List.getElem?_eq_some_iff.1 hx).2] at h2
 refine ⟨by rw [List.getElem?_append_right (by omega), h1, Nat.sub_self, h2];rfl, ?_⟩
 rw [List.set_append_right _ _ (by omega), h1, Nat.sub_self, h2, List.set_cons_zero, List.take_add_one, hy, Option.toList_some, List.append_assoc]
 rfl
set_option maxHeartbeats 2000000 in
theorem join31_o (a b : List Int) (ha : ValC a) (hb : ValC b) (hl : a.length = b.length) : CallO Tryz.prog 179 [clks [a, b]] 3 1 (joinC a b) intC := by
 have hal := alike31_t [a, b] (by simp) a rfl (by simp;exact ⟨ha, hb, hl.symm⟩)
 have hjl : (joinC a b).length = a.length := joinC_len hl
 have h5 := ha.2
 obtain ⟨L, hL⟩ : ∃ L, L = [a, b] := ⟨_, rfl⟩
 have hL0 : L[0]? = some a := by rw [hL];rfl
 have hL1 : L[1]? = some b := by rw [hL];rfl
 have hLl : L.length = 2 := by rw [hL];rfl
 rw [← hL] at hal ⊢
 refine CallA.of pg ord179 Tryz.func179 rfl Tryz.ntmps179 Tryz.results179 rfl fun h0 G0 O0 => ?_
 repeat' (first|refine Sp.h ?_|refine Lk.r rfl ?_|refine Rf.mk rfl ?_|(apply Bd.t;(focus first|assumption|omega|rfl))|(apply Om.mk;(focus first|omega|(simp <;> omega)))|(refine All.mk ?_;intro _)|(apply TkA.r;(focus repeat constructor))|(apply Ix.q;(focus exact rfl);(focus assumption))|refine Ce.l rfl ?_|(apply Fk.r;(focus (repeat (first|exact FillA.nil|(apply FillA.agg;(focus rfl);(focus rfl);(focus (repeat (first|exact SetAs.z|(apply SetAs.c;(focus (repeat first|assumption|constructor)))))))|(apply FillA.one;(focus rfl);(focus infer_instance);(focus (repeat first|assumption|constructor)))))))|refine Rf.mk ⟨rfl, rfl⟩ ?_|refine Rf.mk ⟨rfl, rfl, rfl⟩ ?_|refine Mp.same ?_|(apply Cl.p (hal);(focus repeat' (first|exact Lend.nil|apply Lend.keep|fail))))
 rename_i _ u
 refine CA.loop (fun x : Nat × List Int => ⟨[(0, clks L), (3, .ow u), (4, it x.1)], [arrR u 3 1 x.2 intC]⟩) (fun x => x.1 ≤ 2 ∧ x.2 = if x.1 = 2 then joinC a b else a) (fun x => 2 - x.1) (0, a) ⟨by repeat first|trivial|refine ⟨rfl,?_⟩,by repeat first|exact .nil|refine .cons (by repeat constructor) ?_⟩ ⟨by omega, rfl⟩ ?_
 rintro ⟨i, out⟩ ⟨hi, ho⟩
 simp only at hi ho
 simp only
 by_cases h2 : i = 2
 ·subst h2
  rw [if_pos rfl] at ho
  subst ho
  repeat' (first|refine Sp.h ?_|refine Lk.r rfl ?_|refine Rf.mk rfl ?_|(apply Bd.f;(focus first|assumption|omega|exact Bool.false_ne_true))|(refine Im.mk ?_;intro _)|(apply Nm.r;focus repeat constructor)|fail)
  exact ⟨_, _, .one (.same (.nil (by (repeat first|exact .nil|refine .cons (by repeat constructor) ?_)))), _, rfl, rfl⟩
 rw [if_neg h2] at ho
 subst ho
 by_cases h0 : i = 0
 ·subst h0
  repeat' (first|refine Sp.h ?_|refine Lk.r rfl ?_|refine Rf.mk rfl ?_|(apply Bd.t;(focus first|assumption|omega|rfl))|(refine Im.mk ?_;intro _)|fail)
  refine CA.loop (fun k : Nat => ⟨[(0, clks L), (3, .ow u), (4, it (0 : Nat)), (5, it k)], [arrR u 3 1 out intC]⟩) (fun k => k ≤ out.length) (fun k => out.length - k) 0 ⟨by repeat first|trivial|refine ⟨rfl,?_⟩,by repeat first|exact .nil|refine .cons (by repeat constructor) ?_⟩ (Nat.zero_le _) ?_
  intro k hk
  by_cases hkn : k < out.length
  ·obtain ⟨x, hx⟩ := get_of hkn
   repeat' (first|refine Sp.h ?_|refine Lk.r rfl ?_|refine Rf.mk rfl ?_|(apply Bd.t;(focus first|assumption|omega|rfl))|(apply Bd.f;(focus first|assumption|omega|exact Bool.false_ne_true))|refine OpK.r rfl ?_|(apply TkA.r;(focus repeat constructor))|(apply Ix.q;(focus exact rfl);(focus assumption))|(apply At.r;(focus assumption))|(apply CA.draw;(focus rfl);(focus kernel_rfl);(focus kernel_rfl);(focus repeat' constructor);(focus rfl))|(apply Ov.n;(focus first|omega|(simp <;> omega)))|fail)
   all_goals exact PA.lp (k + 1) ⟨by repeat first|trivial|refine ⟨rfl,?_⟩,by repeat first|exact .nil|refine .cons (by repeat constructor) ?_⟩ ⟨hkn, by omega⟩
  ·repeat' (first|refine Sp.h ?_|refine Lk.r rfl ?_|refine Rf.mk rfl ?_|(apply Bd.f;(focus first|assumption|omega|exact Bool.false_ne_true))|(apply TkA.r;(focus repeat constructor))|(apply Ov.n;(focus first|omega|(simp <;> omega)))|fail)
   all_goals exact PA.lp (1, out) ⟨by repeat first|trivial|refine ⟨rfl,?_⟩,by repeat first|exact .nil|refine .cons (by repeat constructor) ?_⟩ ⟨⟨by omega, by simp⟩, by simp only;omega⟩
 have h1 : i = 1 := by omega
 subst h1
 repeat' (first|refine Sp.h ?_|refine Lk.r rfl ?_|refine Rf.mk rfl ?_|(apply Bd.t;(focus first|assumption|omega|rfl))|(refine Im.mk ?_;intro _)|fail)
 refine CA.loop (fun k : Nat => ⟨[(0, clks L), (3, .ow u), (4, it (1 : Nat)), (5, it k)], [arrR u 3 1 ((joinC out b).take k ++ out.drop k) intC]⟩) (fun k => k ≤ out.length) (fun k => out.length - k) 0 ⟨by repeat first|trivial|refine ⟨rfl,?_⟩,by repeat first|exact .nil|refine .cons (by repeat constructor) ?_⟩ (Nat.zero_le _) ?_
 intro k hk
 have hml : ((joinC out b).take k ++ out.drop k).length = out.length := by rw [List.length_append, List.length_take, List.length_drop];omega
 by_cases hkn : k < out.length
 ·obtain ⟨x, hx⟩ := get_of hkn
  obtain ⟨y, hy⟩ := get_of (l := b) (i := k) (by omega)
  have hz : (joinC out b)[k]? = some (max x y) := (zipC_at hl).2 ⟨x, y, hx, hy, rfl⟩
  obtain ⟨m1, m2⟩ := mix_at hjl hx hz
  by_cases hxy : x < y
  ·rw [show max x y = y by omega] at m2
   repeat' (first|refine Sp.h ?_|refine Lk.r rfl ?_|refine Rf.mk rfl ?_|(apply Bd.t;(focus first|assumption|omega|rfl))|refine OpK.r rfl ?_|(apply TkA.r;(focus repeat constructor))|(apply Ix.q;(focus exact rfl);(focus assumption))|(apply At.r;(focus assumption))|(apply SetAk.r;(focus (repeat first|assumption|constructor)))|refine Up.r rfl ?_|(apply CA.draw;(focus rfl);(focus kernel_rfl);(focus kernel_rfl);(focus repeat' constructor);(focus rfl))|(apply Ov.n;(focus first|omega|(simp <;> omega)))|fail)
   rw [m2]
   all_goals exact PA.lp (k + 1) ⟨by repeat first|trivial|refine ⟨rfl,?_⟩,by repeat first|exact .nil|refine .cons (by repeat constructor) ?_⟩ ⟨hkn, by omega⟩
  ·rw [show max x y = x by omega] at m2
   have m3 : ((joinC out b).take k ++ out.drop k).set k x = (joinC out b).take k ++ out.drop k := set_same m1
   rw [m3] at m2
   repeat' (first|refine Sp.h ?_|refine Lk.r rfl ?_|refine Rf.mk rfl ?_|(apply Bd.t;(focus first|assumption|omega|rfl))|(apply Bd.f;(focus first|assumption|omega|exact Bool.false_ne_true))|refine OpK.r rfl ?_|(apply TkA.r;(focus repeat constructor))|(apply Ix.q;(focus exact rfl);(focus assumption))|(apply At.r;(focus assumption))|(apply CA.draw;(focus rfl);(focus kernel_rfl);(focus kernel_rfl);(focus repeat' constructor);(focus rfl))|(apply Ov.n;(focus first|omega|(simp <;> omega)))|fail)
   rw [m2]
   all_goals exact PA.lp (k + 1) ⟨by repeat first|trivial|refine ⟨rfl,?_⟩,by repeat first|exact .nil|refine .cons (by repeat constructor) ?_⟩ ⟨hkn, by omega⟩
 ·have hke : k = out.length := by omega
  subst hke
  rw [List.drop_length, List.append_nil, List.take_of_length_le (by omega)]
  repeat' (first|refine Sp.h ?_|refine Lk.r rfl ?_|refine Rf.mk rfl ?_|(apply Bd.f;(focus first|assumption|omega|exact Bool.false_ne_true))|(apply TkA.r;(focus repeat constructor))|(apply Ov.n;(focus first|omega|(simp <;> omega)))|fail)
  all_goals exact PA.lp (2, joinC out b) ⟨by repeat first|trivial|refine ⟨rfl,?_⟩,by repeat first|exact .nil|refine .cons (by repeat constructor) ?_⟩ ⟨⟨by omega, by simp⟩, by simp only;omega⟩
end Go.Proofs.YtmllihbhphnolaaGreat
namespace Go.Proofs.YtmllihbhphnolaaGreat
open Go Go.CF
set_option maxRecDepth 20000
def behO : Nat → Ord × (Nat → Cls) := fun id => bif Nat.beq id 2 then (.one 0 (.one 1 (.one 2 (.one 3 (.one 4 (.one 5 (.one 6 (.one 7 (.one 8 (.one 9 (.one 10 (.one 11 (.one 12 (.one 13 (.one 14 .done)))))))))))))), clOf [.pure, .read, .pure, .read, .pure, .read, .pure, .read, .pure, .read, .pure, .read, .pure, .pure, .loud]) else bif Nat.beq id 9 then (.one 1 (.one 2 (.one 4 (.alt 0 (.alt 3 (.one 5 (.one 6 (.one 7 (.one 8 (.one 9 (.one 10 .done)))))) (.alt 5 (.alt 3 (.one 6 (.one 7 (.one 8 (.one 9 (.one 10 .done))))) (.alt 6 (.one 3 (.one 7 (.one 8 (.one 9 (.one 10 .done))))) (.none))) (.none))) (.alt 5 (.alt 0 (.alt 3 (.one 6 (.one 7 (.one 8 (.one 9 (.one 10 .done))))) (.alt 6 (.one 3 (.one 7 (.one 8 (.one 9 (.one 10 .done))))) (.none))) (.alt 6 (.one 0 (.one 3 (.one 7 (.one 8 (.one 9 (.one 10 .done)))))) (.none))) (.none))))), clOf [.ext, .pure, .read, .loud, .pure, .ext, .ext, .loud, .loud, .pure, .loud]) else (.done, clOf [])
noncomputable def behF (m : ModS) (b : NowS) (e : EvS) : NowS :=
 ⟨(joinC b.clock e.past).set e.rep.toNat (max ((joinC b.clock e.past)[e.rep.toNat]?.getD 0) e.num), max b.time e.time, addE m b.state e, if (applyF m b.merged e).1 = 0 then (applyF m b.merged e).2 else b.merged, if 0 < e.place then srtD (b.places ++ [e.place]) else b.places⟩
set_option maxHeartbeats 4000000 in
theorem behind_p (m : ModS) (b : NowS) (e : EvS) (hm : MOK m) (hc : ValC b.clock) (he : EvV m (b.clock.length : Nat) e) (hst : b.state.length = strF m) (hpl : b.places.length ≤ 10000) : CallP Tryz.prog 124 [mdl m, basA b, evA' e] (.tup [basA (behF m b e), it (applyF m b.merged e).1]) := by
 have hel : e.past.length = b.clock.length := by have := he.2.1;omega
 have hev : EvV m (e.past.length : Nat) e := by rw [hel];exact he
 have hf := formed_rep he.1
 have hj := join31_o b.clock e.past hc he.1.1 hel.symm
 have hjl : (joinC b.clock e.past).length = b.clock.length := joinC_len hel.symm
 have hs := state32_p m b.state [e] hm hst (by simp) (fun x hx => by rw [List.mem_singleton.1 hx];exact hev)
 have ha := apply34_p m b.merged e hm
 obtain ⟨J, hJ⟩ : ∃ J, J = joinC b.clock e.past := ⟨_, rfl⟩
 rw [← hJ] at hj hjl
 obtain ⟨n, hn⟩ : ∃ n : Nat, e.rep = n := ⟨e.rep.toNat, by omega⟩
 obtain ⟨z, hz⟩ := get_of (l := J) (i := n) (by omega)
 have hc5 := hc.2
 have hso := sorted_p (b.places ++ [e.place]) (by simp;omega)
 have hB : behF m b e = ⟨J.set n (max z e.num), max b.time e.time, addE m b.state e, if (applyF m b.merged e).1 = 0 then (applyF m b.merged e).2 else b.merged, if 0 < e.place then srtD (b.places ++ [e.place]) else b.places⟩ := by
  unfold behF
  rw [← hJ, hn]
  simp only [Int.toNat_natCast]
  rw [hz]
  rfl
 rw [hB]
 refine CallA.of pg behO Tryz.func124 rfl Tryz.ntmps124 Tryz.results124 rfl fun h0 G0 O0 => ?_
 repeat' (first|refine Sp.h ?_|refine Lk.r rfl ?_|refine Rf.mk rfl ?_|(refine All.mk ?_;intro _)|(apply TkB.r;(focus repeat constructor))|(apply Fk.r;(focus (repeat (first|exact FillA.nil|(apply FillA.agg;(focus rfl);(focus rfl);(focus (repeat (first|exact SetAs.z|(apply SetAs.c;(focus (repeat first|assumption|constructor)))))))|(apply FillA.one;(focus rfl);(focus infer_instance);(focus (repeat first|assumption|constructor)))))))|(apply Nm.r;focus repeat constructor)|refine Rf.mk ⟨rfl, rfl, rfl⟩ ?_|fail)
 (apply Cl.fz;(focus repeat' (first|exact FZ.nil|(apply FZ.fz;(focus repeat constructor);(focus first|omega|decide|exact Nat.le_of_ble_eq_true rfl|(simp <;> omega)))|apply FZ.agg|apply FZ.same)))
 (refine Cl.use (hj) (by repeat' (first|exact Lend.nil|(apply Lend.mp;(focus rfl))|fail)) .nil rfl ?_;rintro _ _ ⟨_, rfl, rfl⟩)
 (repeat' (first|(show CA _ _ (Code.region 3 _ _) _ _;apply Stopped.out)|refine Sp.h ?_|refine Lk.r rfl ?_|refine Rf.mk rfl ?_|refine OpK.r rfl ?_|(apply TkA.r;(focus repeat constructor))|(apply TkB.r;(focus repeat constructor))|(apply Ix.r;(focus assumption);(focus omega))|(apply At.r;(focus assumption))|(apply SetAk.r;(focus (repeat first|assumption|constructor)))|refine Up.r rfl ?_|(apply CA.draw;(focus rfl);(focus kernel_rfl);(focus kernel_rfl);(focus repeat' constructor);(focus rfl))|fail));any_goals apply Stopped.mk
 rename_i b3 b4 b5 b6 _ _
 (apply CA.own;(focus (apply OX.blk (b := b4);(focus repeat constructor);(focus (repeat' (first|exact FX.nil|(apply FX.s1;(focus repeat constructor);(focus first|omega|(simp;done)|(simp;omega)))|apply FX.k)));(focus repeat constructor))))
 repeat' (first|refine Sp.h ?_|refine Lk.r rfl ?_|refine Rf.mk rfl ?_|(refine All.mk ?_;intro _)|(apply TkB.r;(focus repeat constructor))|refine Ch.l ⟨rfl, rfl⟩ ?_|(apply SetAk.r;(focus (repeat first|assumption|constructor)))|(apply Fk.r;(focus (repeat (first|exact FillA.nil|(apply FillA.agg;(focus rfl);(focus rfl);(focus (repeat (first|exact SetAs.z|(apply SetAs.c;(focus (repeat first|assumption|constructor)))))))|(apply FillA.one;(focus rfl);(focus infer_instance);(focus (repeat first|assumption|constructor)))))))|refine Rf.mk ⟨rfl, rfl, rfl⟩ ?_|fail)
 (apply Cl.fz;(focus repeat' (first|exact FZ.nil|(apply FZ.fz;(focus repeat constructor);(focus first|omega|decide|exact Nat.le_of_ble_eq_true rfl|(simp <;> omega)))|apply FZ.agg|apply FZ.same)))
 (apply Cl.p (hs);(focus repeat' (first|exact Lend.nil|apply Lend.keep|(apply Lend.mp;(focus rfl))|fail)))
 repeat' (first|refine Sp.h ?_|refine Lk.r rfl ?_|refine Rf.mk rfl ?_|(apply TkB.r;(focus repeat constructor))|refine Ch.l ⟨rfl, rfl⟩ ?_|(apply SetAk.r;(focus (repeat first|assumption|constructor)))|fail)
 (apply Cl.p (ha);(focus repeat' (first|exact Lend.nil|apply Lend.keep|fail)))
 by_cases h0 : (applyF m b.merged e).1 = 0
 ·rw [if_pos h0]
  by_cases hp : 0 < e.place
  ·rw [if_pos hp]
   repeat' (first|refine Sp.h ?_|refine Lk.r rfl ?_|refine Rf.mk rfl ?_|(apply Bd.t;(focus first|assumption|omega|rfl))|refine OpK.r rfl ?_|(apply Om.mk;(focus first|omega|(simp <;> omega)))|(refine All.mk ?_;intro _)|(apply TkA.r;(focus repeat constructor))|(apply TkB.r;(focus repeat constructor))|refine Ce.l rfl ?_|refine Ce.r ?_|refine Ch.l ⟨rfl, rfl⟩ ?_|(apply SetAk.r;(focus (repeat first|assumption|constructor)))|(apply SetAsk.r;(focus (repeat (first|exact SetAs.z|(apply SetAs.c;(focus (repeat first|assumption|constructor)))))))|(apply Fk.r;(focus (repeat (first|exact FillA.nil|(apply FillA.agg;(focus rfl);(focus rfl);(focus (repeat (first|exact SetAs.z|(apply SetAs.c;(focus (repeat first|assumption|constructor)))))))|(apply FillA.one;(focus rfl);(focus infer_instance);(focus (repeat first|assumption|constructor)))))))|(apply Nm.r;focus repeat constructor)|refine Rf.mk ⟨rfl, rfl⟩ ?_|refine Rf.mk ⟨rfl, rfl, rfl⟩ ?_|refine Mp.same ?_|(apply Mp.lit;(focus repeat (first|exact MpL.nil|(apply MpL.cons;(focus rfl))|(apply MpL.inv;(focus repeat constructor);(focus infer_instance)))))|(apply CA.draw;(focus rfl);(focus kernel_rfl);(focus kernel_rfl);(focus repeat' constructor);(focus rfl))|exact trivial|apply RA'.both|(((apply Cl.fz;(focus repeat' (first|exact FZ.nil|(apply FZ.fz;(focus repeat constructor);(focus first|omega|decide|exact Nat.le_of_ble_eq_true rfl|(simp <;> omega)))|apply FZ.agg|apply FZ.same))));((apply Cl.p (hso);(focus repeat' (first|exact Lend.nil|apply Lend.keep|fail))))))
   all_goals exact Fin.p rfl rfl
  ·rw [if_neg hp]
   repeat' (first|refine Sp.h ?_|refine Lk.r rfl ?_|refine Rf.mk rfl ?_|(apply Bd.t;(focus first|assumption|omega|rfl))|(apply Bd.f;(focus first|assumption|omega|exact Bool.false_ne_true))|(apply TkB.r;(focus repeat constructor))|refine Ch.l ⟨rfl, rfl⟩ ?_|(apply SetAk.r;(focus (repeat first|assumption|constructor)))|(apply SetAsk.r;(focus (repeat (first|exact SetAs.z|(apply SetAs.c;(focus (repeat first|assumption|constructor)))))))|(apply Nm.r;focus repeat constructor)|fail)
   all_goals exact Fin.p rfl rfl
 ·rw [if_neg h0]
  by_cases hp : 0 < e.place
  ·rw [if_pos hp]
   repeat' (first|refine Sp.h ?_|refine Lk.r rfl ?_|refine Rf.mk rfl ?_|(apply Bd.t;(focus first|assumption|omega|rfl))|(apply Bd.f;(focus first|assumption|omega|exact Bool.false_ne_true))|refine OpK.r rfl ?_|(apply Om.mk;(focus first|omega|(simp <;> omega)))|(refine All.mk ?_;intro _)|(apply TkA.r;(focus repeat constructor))|(apply TkB.r;(focus repeat constructor))|refine Ce.l rfl ?_|refine Ce.r ?_|refine Ch.l ⟨rfl, rfl⟩ ?_|(apply SetAk.r;(focus (repeat first|assumption|constructor)))|(apply SetAsk.r;(focus (repeat (first|exact SetAs.z|(apply SetAs.c;(focus (repeat first|assumption|constructor)))))))|(apply Fk.r;(focus (repeat (first|exact FillA.nil|(apply FillA.agg;(focus rfl);(focus rfl);(focus (repeat (first|exact SetAs.z|(apply SetAs.c;(focus (repeat first|assumption|constructor)))))))|(apply FillA.one;(focus rfl);(focus infer_instance);(focus (repeat first|assumption|constructor)))))))|(apply Nm.r;focus repeat constructor)|refine Rf.mk ⟨rfl, rfl⟩ ?_|refine Rf.mk ⟨rfl, rfl, rfl⟩ ?_|refine Mp.same ?_|(apply Mp.lit;(focus repeat (first|exact MpL.nil|(apply MpL.cons;(focus rfl))|(apply MpL.inv;(focus repeat constructor);(focus infer_instance)))))|(apply CA.draw;(focus rfl);(focus kernel_rfl);(focus kernel_rfl);(focus repeat' constructor);(focus rfl))|exact trivial|apply RA'.both|(((apply Cl.fz;(focus repeat' (first|exact FZ.nil|(apply FZ.fz;(focus repeat constructor);(focus first|omega|decide|exact Nat.le_of_ble_eq_true rfl|(simp <;> omega)))|apply FZ.agg|apply FZ.same))));((apply Cl.p (hso);(focus repeat' (first|exact Lend.nil|apply Lend.keep|fail))))))
   all_goals exact Fin.p rfl rfl
  ·rw [if_neg hp]
   repeat' (first|refine Sp.h ?_|refine Lk.r rfl ?_|refine Rf.mk rfl ?_|(apply Bd.f;(focus first|assumption|omega|exact Bool.false_ne_true))|(apply TkB.r;(focus repeat constructor))|refine Ch.l ⟨rfl, rfl⟩ ?_|(apply SetAsk.r;(focus (repeat (first|exact SetAs.z|(apply SetAs.c;(focus (repeat first|assumption|constructor)))))))|(apply Nm.r;focus repeat constructor)|fail)
   all_goals exact Fin.p rfl rfl
end Go.Proofs.YtmllihbhphnolaaGreat
namespace Go.Proofs.YtmllihbhphnolaaGreat
open Go Go.CF
set_option maxRecDepth 20000
structure RefB (m : ModS) (n : Nat) (b : NowS) : Prop where
 clk : ValC b.clock
 len : b.clock.length = n
 st : b.state.length = strF m
theorem behF_ok {m : ModS} {n : Nat} {b : NowS} {e : EvS} (h : RefB m n b) (he : EvV m (n : Nat) e) : RefB m n (behF m b e) ∧ (behF m b e).places.length ≤ b.places.length + 1 := by
 have hel : e.past.length = b.clock.length := by have := he.2.1;have := h.len;omega
 have hjv : ValC (joinC b.clock e.past) := joinC_val h.clk he.1.1 hel.symm
 have hjl : (joinC b.clock e.past).length = n := by rw [joinC_len hel.symm];exact h.len
 have hnum := formed_num he.1
 refine ⟨⟨⟨fun z hz => ?_, by simp only [behF, List.length_set];exact hjv.2⟩, by simp only [behF, List.length_set];exact hjl, by simp only [behF, addE_len];exact h.st⟩, ?_⟩
 ·rcases List.mem_or_eq_of_mem_set hz with hz|rfl
  ·exact hjv.1 z hz
  ·refine rng_max _ _ ?_ hnum
   cases hx : (joinC b.clock e.past)[e.rep.toNat]? with
   | none => simp [rngK]
   | some y => exact hjv.1 y (List.mem_of_getElem? hx)
 ·simp only [behF]
  split
  ·have := srtD_len (b.places ++ [e.place]);simp at this;omega
  ·omega
theorem sumF_ok {m : ModS} {n : Nat} {b : NowS} (l : List EvS) (h : RefB m n b) (hl : ∀ e ∈ l, EvV m (n : Nat) e) : RefB m n (l.foldl (behF m) b) ∧ (l.foldl (behF m) b).places.length ≤ b.places.length + l.length := by
 induction l generalizing b with
 | nil => exact ⟨h, by simp⟩
 | cons e l ih =>
  obtain ⟨h1, h2⟩ := behF_ok h (hl e (by simp))
  obtain ⟨h3, h4⟩ := ih h1 fun x hx => hl x (List.mem_cons_of_mem _ hx)
  rw [List.foldl_cons]
  exact ⟨h3, by simp only [List.length_cons];omega⟩
set_option maxHeartbeats 2000000 in
theorem sum35_p (m : ModS) (n : Nat) (b : NowS) (l : List EvS) (hm : MOK m) (h : RefB m n b) (hl : ∀ e ∈ l, EvV m (n : Nat) e) (hp : b.places.length + l.length ≤ 10000) : CallP Tryz.prog 166 [mdl m, basA b, evs l] (basA (l.foldl (behF m) b)) := by
 refine CallA.of pg ord166 Tryz.func166 rfl Tryz.ntmps166 Tryz.results166 rfl fun h0 G0 O0 => ?_
 repeat' (first|refine Sp.h ?_|refine Lk.r rfl ?_|refine Rf.mk rfl ?_|(refine All.mk ?_;intro _)|(apply Nm.r;focus repeat constructor)|fail)
 rename_i b3 b4 b6
 refine CA.loop (fun i : Nat => ⟨[(2, evs l), (3, pm b3), (4, pm b4), (6, pm b6), (7, it i)], [mR b3 m, blkR b4 75 (basC ((l.take i).foldl (behF m) b)), blkR b6 75 [nl0, it 0, nl0, nl0, nl0, nl0, nl0]]⟩) (fun i => i ≤ l.length) (fun i => l.length - i) 0 ⟨by repeat first|trivial|refine ⟨rfl,?_⟩,by repeat first|exact .nil|refine .cons (by repeat constructor) ?_⟩ (Nat.zero_le _) ?_
 intro i hi
 by_cases hin : i < l.length
 ·obtain ⟨e, he⟩ := get_of hin
  have hsu : (l.take (i + 1)).foldl (behF m) b = behF m ((l.take i).foldl (behF m) b) e := by rw [List.take_add_one, he, Option.toList_some, List.foldl_append];rfl
  obtain ⟨h1, h2⟩ := sumF_ok (l.take i) h fun x hx => hl x (List.mem_of_mem_take hx)
  have h3 : (l.take i).length ≤ l.length := by rw [List.length_take];omega
  have hev := hl e (List.mem_of_getElem? he)
  have hbe := behind_p m ((l.take i).foldl (behF m) b) e hm h1.clk (by rw [h1.len];exact hev) h1.st (by omega)
  rw [← hsu] at hbe
  repeat' (first|refine Sp.h ?_|refine Lk.r rfl ?_|refine Rf.mk rfl ?_|(apply Bd.t;(focus first|assumption|omega|rfl))|refine OpK.r rfl ?_|(refine Im.mk ?_;intro _)|(apply TkB.r;(focus repeat constructor))|(apply Ix.q;(focus exact rfl);(focus assumption))|refine Ch.l ⟨rfl, rfl⟩ ?_|(apply SetAsk.r;(focus (repeat (first|exact SetAs.z|(apply SetAs.c;(focus (repeat first|assumption|constructor)))))))|(apply CA.draw;(focus rfl);(focus kernel_rfl);(focus kernel_rfl);(focus repeat' constructor);(focus rfl))|(apply Ov.n;(focus first|omega|(simp <;> omega)))|(apply Cl.p (hbe);(focus repeat' (first|exact Lend.nil|apply Lend.keep|fail))))
  all_goals exact PA.lp (i + 1) ⟨by repeat first|trivial|refine ⟨rfl,?_⟩,by repeat first|exact .nil|refine .cons (by repeat constructor) ?_⟩ ⟨hin, by omega⟩
 ·have hie : i = l.length := by omega
  subst hie
  rw [List.take_length]
  repeat' (first|refine Sp.h ?_|refine Lk.r rfl ?_|refine Rf.mk rfl ?_|(apply Bd.f;(focus first|assumption|omega|exact Bool.false_ne_true))|(refine Im.mk ?_;intro _)|(apply TkB.r;(focus repeat constructor))|refine Ch.l ⟨rfl, rfl⟩ ?_|(apply SetAsk.r;(focus (repeat (first|exact SetAs.z|(apply SetAs.c;(focus (repeat first|assumption|constructor)))))))|(apply Nm.r;focus repeat constructor)|fail)
  exact Fin.p rfl rfl
abbrev rstC (b : NowS) (l : List EvS) : List AV := [ints b.clock, it b.time, ints b.state, mgs b.merged, nl0, nl0, ints b.places, evs l]
theorem all35_p (m : ModS) (n : Nat) (b : NowS) (l : List EvS) (hm : MOK m) (h : RefB m n b) (hl : ∀ e ∈ l, EvV m (n : Nat) e) (hp : b.places.length + l.length ≤ 10000) : CallP Tryz.prog 109 [mdl m, .agg (rstC b l)] (basA (l.foldl (behF m) b)) := by
 have hs := sum35_p m n b l hm h hl hp
 refine CallA.of pg ord109 Tryz.func109 rfl Tryz.ntmps109 Tryz.results109 rfl fun h0 G0 O0 => ?_
 repeat' (first|refine Sp.h ?_|refine Lk.r rfl ?_|refine Rf.mk rfl ?_|(refine All.mk ?_;intro _)|(apply TkB.r;(focus repeat constructor))|refine Ch.l ⟨rfl, rfl⟩ ?_|refine Ch.r ?_|(apply SetAsk.r;(focus (repeat (first|exact SetAs.z|(apply SetAs.c;(focus (repeat first|assumption|constructor)))))))|(apply Nm.r;focus repeat constructor)|(apply Cl.p (hs);(focus repeat' (first|exact Lend.nil|apply Lend.keep|fail))))
 all_goals exact Fin.p rfl rfl
end Go.Proofs.YtmllihbhphnolaaGreat
namespace Go.Proofs.YtmllihbhphnolaaGreat
open Go Go.CF
set_option maxRecDepth 20000
theorem inside35r_p (l : List Int) : CallP Tryz.prog 107 [ints l] (bl (decide (insS l))) := by
 refine CallA.of pg ord107 Tryz.func107 rfl Tryz.ntmps107 Tryz.results107 rfl fun h0 G0 O0 => ?_
 repeat' (first|refine Sp.h ?_|refine Lk.r rfl ?_|refine Rf.mk rfl ?_|fail)
 refine CA.loop (fun i : Nat => ⟨[(0, ints l), (3, it i)], []⟩) (fun i => i ≤ l.length ∧ insS (l.take i)) (fun i => l.length - i) 0 ⟨by repeat first|trivial|refine ⟨rfl,?_⟩,by repeat first|exact .nil|refine .cons (by repeat constructor) ?_⟩ ⟨Nat.zero_le _, fun x hx => by simp at hx⟩ ?_
 rintro i ⟨hi, hs⟩
 by_cases hin : i < l.length
 ·obtain ⟨x, hx⟩ := get_of hin
  by_cases h1 : x < -1000000000
  ·have hn : ¬ insS l := fun h => by have := h x (List.mem_of_getElem? hx);omega
   rw [decide_eq_false hn]
   repeat' (first|refine Sp.h ?_|refine Lk.r rfl ?_|refine Rf.mk rfl ?_|(apply Bd.t;(focus first|assumption|omega|rfl))|(refine Im.mk ?_;intro _)|(apply Ix.q;(focus exact rfl);(focus assumption))|(apply Nm.r;focus repeat constructor)|fail)
   all_goals exact Fin.p rfl rfl
  by_cases h2 : 1000000000 < x
  ·have hn : ¬ insS l := fun h => by have := h x (List.mem_of_getElem? hx);omega
   rw [decide_eq_false hn]
   repeat' (first|refine Sp.h ?_|refine Lk.r rfl ?_|refine Rf.mk rfl ?_|(apply Bd.t;(focus first|assumption|omega|rfl))|(apply Bd.f;(focus first|assumption|omega|exact Bool.false_ne_true))|(refine Im.mk ?_;intro _)|(apply Ix.q;(focus exact rfl);(focus assumption))|(apply Nm.r;focus repeat constructor)|fail)
   all_goals exact Fin.p rfl rfl
  ·have hs2 : insS (l.take (i + 1)) := by
    intro y hy
    rw [List.take_add_one, hx] at hy
    rcases List.mem_append.1 hy with hy|hy
    ·exact hs y hy
    ·rw [List.mem_singleton.1 hy];omega
   repeat' (first|refine Sp.h ?_|refine Lk.r rfl ?_|refine Rf.mk rfl ?_|(apply Bd.t;(focus first|assumption|omega|rfl))|(apply Bd.f;(focus first|assumption|omega|exact Bool.false_ne_true))|(refine Im.mk ?_;intro _)|(apply Ix.q;(focus exact rfl);(focus assumption))|(apply Ov.n;(focus first|omega|(simp <;> omega)))|fail)
   all_goals exact PA.lp (i + 1) ⟨by repeat first|trivial|refine ⟨rfl,?_⟩,by repeat first|exact .nil|refine .cons (by repeat constructor) ?_⟩ ⟨⟨hin, hs2⟩, by omega⟩
 ·have hie : i = l.length := by omega
  subst hie
  rw [List.take_length] at hs
  rw [decide_eq_true hs]
  repeat' (first|refine Sp.h ?_|refine Lk.r rfl ?_|refine Rf.mk rfl ?_|(apply Bd.f;(focus first|assumption|omega|exact Bool.false_ne_true))|(refine Im.mk ?_;intro _)|(apply Nm.r;focus repeat constructor)|fail)
  exact Fin.p rfl rfl
end Go.Proofs.YtmllihbhphnolaaGreat
namespace Go.Proofs.YtmllihbhphnolaaGreat
open Go Go.CF
set_option maxRecDepth 20000
def delO : Nat → Ord × (Nat → Cls) := fun id => bif Nat.beq id 12 then (.one 0 (.one 1 (.one 2 (.one 3 (.one 4 (.one 5 (.one 6 (.one 7 (.one 8 (.one 9 (.one 10 (.one 11 (.one 12 (.one 13 (.one 14 (.one 15 (.one 16 (.one 17 .done))))))))))))))))), clOf [.pure, .read, .pure, .pure, .read, .read, .loud, .pure, .pure, .read, .pure, .pure, .pure, .read, .pure, .read, .pure, .pure]) else bif Nat.beq id 19 then (.one 1 (.one 2 (.alt 0 (.alt 3 (.one 4 (.one 5 (.one 6 (.one 7 (.one 8 .done))))) (.alt 4 (.alt 3 (.one 5 (.one 6 (.one 7 (.one 8 .done)))) (.alt 5 (.one 3 (.one 6 (.one 7 (.one 8 .done)))) (.none))) (.none))) (.alt 4 (.alt 0 (.alt 3 (.one 5 (.one 6 (.one 7 (.one 8 .done)))) (.alt 5 (.one 3 (.one 6 (.one 7 (.one 8 .done)))) (.none))) (.alt 5 (.one 0 (.one 3 (.one 6 (.one 7 (.one 8 .done))))) (.none))) (.none)))), clOf [.ext, .pure, .read, .loud, .ext, .ext, .loud, .pure, .loud]) else (.done, clOf [])
set_option maxHeartbeats 8000000 in
theorem deliver35_p (m : ModS) (n : Nat) (b : NowS) (l : List EvS) (W : NowS) (e : EvS) (hm : MOK m) (h : RefB m n b) (hl : ∀ x ∈ l, EvV m (n : Nat) x) (hp : b.places.length + l.length ≤ 10000) (hW : W = l.foldl (behF m) b) (hin : insS W.state) :
  CallP Tryz.prog 56 [mdl m, .agg (rstC b l), evA' e] (.tup [.agg (rstC b (evsD m l W e)), it (deliverF m l W e).1]) := by
 have hal := all35_p m n b l hm h hl hp
 obtain ⟨hr, hrp⟩ := sumF_ok l h hl
 rw [← hW] at hal hr hrp
 have hva := evalid32_p m (W.clock.length : Nat) e
 have hna := nameR_p e
 have hha := hasR_p W.clock e.rep e.num
 have hii := insideR_p e.past W.clock
 have hev : ∀ c : Int, c ≠ 0 → deliverF m l W e = (c, W) → evsD m l W e = l := fun c hc hd => by rw [evsD, hd];exact if_neg hc
 by_cases c1 : EvV m (W.clock.length : Nat) e
 rotate_left
 ·have hd : deliverF m l W e = (1, W) := by rw [deliverF, if_pos c1]
  rw [hev 1 (by decide) hd, hd]
  rw [decide_eq_false c1] at hva
  refine CallA.of pg ord56 Tryz.func56 rfl Tryz.ntmps56 Tryz.results56 rfl fun h0 G0 O0 => ?_
  repeat' (first|refine Sp.h ?_|refine Lk.r rfl ?_|refine Rf.mk rfl ?_|(apply Bd.f;(focus first|assumption|omega|exact Bool.false_ne_true))|(refine Im.mk ?_;intro _)|(refine All.mk ?_;intro _)|(apply TkB.r;(focus repeat constructor))|refine Ch.l ⟨rfl, rfl⟩ ?_|(apply SetAsk.r;(focus (repeat (first|exact SetAs.z|(apply SetAs.c;(focus (repeat first|assumption|constructor)))))))|(apply Nm.r;focus repeat constructor)|(apply Cl.p (hal);(focus repeat' (first|exact Lend.nil|apply Lend.keep|fail)))|(apply Cl.p (hva);(focus repeat' (first|exact Lend.nil|apply Lend.keep|fail))))
  all_goals exact Fin.p rfl rfl
 rw [decide_eq_true c1] at hva
 by_cases c2 : HasC W.clock e.rep e.num
 ·have hd : deliverF m l W e = (6, W) := by rw [deliverF, if_neg (fun h9 => h9 c1), if_pos c2]
  rw [hev 6 (by decide) hd, hd]
  rw [decide_eq_true c2] at hha
  refine CallA.of pg ord56 Tryz.func56 rfl Tryz.ntmps56 Tryz.results56 rfl fun h0 G0 O0 => ?_
  repeat' (first|refine Sp.h ?_|refine Lk.r rfl ?_|refine Rf.mk rfl ?_|(apply Bd.t;(focus first|assumption|omega|rfl))|(refine Im.mk ?_;intro _)|(refine All.mk ?_;intro _)|(apply TkB.r;(focus repeat constructor))|refine Ch.l ⟨rfl, rfl⟩ ?_|(apply SetAsk.r;(focus (repeat (first|exact SetAs.z|(apply SetAs.c;(focus (repeat first|assumption|constructor)))))))|(apply Nm.r;focus repeat constructor)|(apply Cl.p (hal);(focus ((repeat' (first|exact Lend.nil|apply Lend.keep|fail));done)))|(apply Cl.p (hva);(focus ((repeat' (first|exact Lend.nil|apply Lend.keep|fail));done)))|(apply Cl.p (hna);(focus ((repeat' (first|exact Lend.nil|apply Lend.keep|fail));done)))|(apply Cl.p (hha);(focus ((repeat' (first|exact Lend.nil|apply Lend.keep|fail));done))))
  all_goals exact Fin.p rfl rfl
 rw [decide_eq_false c2] at hha
 by_cases c3 : Ins e.past W.clock
 rotate_left
 ·have hd : deliverF m l W e = (9, W) := by rw [deliverF, if_neg (fun h9 => h9 c1), if_neg c2, if_pos c3]
  rw [hev 9 (by decide) hd, hd]
  rw [decide_eq_false c3] at hii
  refine CallA.of pg ord56 Tryz.func56 rfl Tryz.ntmps56 Tryz.results56 rfl fun h0 G0 O0 => ?_
  repeat' (first|refine Sp.h ?_|refine Lk.r rfl ?_|refine Rf.mk rfl ?_|(apply Bd.t;(focus first|assumption|omega|rfl))|(apply Bd.f;(focus first|assumption|omega|exact Bool.false_ne_true))|(refine Im.mk ?_;intro _)|(refine All.mk ?_;intro _)|(apply TkB.r;(focus repeat constructor))|refine Ch.l ⟨rfl, rfl⟩ ?_|(apply SetAsk.r;(focus (repeat (first|exact SetAs.z|(apply SetAs.c;(focus (repeat first|assumption|constructor)))))))|(apply Nm.r;focus repeat constructor)|(apply Cl.p (hal);(focus ((repeat' (first|exact Lend.nil|apply Lend.keep|fail));done)))|(apply Cl.p (hva);(focus ((repeat' (first|exact Lend.nil|apply Lend.keep|fail));done)))|(apply Cl.p (hna);(focus ((repeat' (first|exact Lend.nil|apply Lend.keep|fail));done)))|(apply Cl.p (hha);(focus ((repeat' (first|exact Lend.nil|apply Lend.keep|fail));done)))|(apply Cl.p (hii);(focus ((repeat' (first|exact Lend.nil|apply Lend.keep|fail));done))))
  all_goals exact Fin.p rfl rfl
 rw [decide_eq_true c3] at hii
 refine CallA.of pg delO Tryz.func56 rfl Tryz.ntmps56 Tryz.results56 rfl fun h0 G0 O0 => ?_
 repeat' (first|refine Sp.h ?_|refine Lk.r rfl ?_|refine Rf.mk rfl ?_|(apply Bd.t;(focus first|assumption|omega|rfl))|(refine Im.mk ?_;intro _)|(refine All.mk ?_;intro _)|(apply TkB.r;(focus repeat constructor))|refine Ch.l ⟨rfl, rfl⟩ ?_|(apply SetAsk.r;(focus (repeat (first|exact SetAs.z|(apply SetAs.c;(focus (repeat first|assumption|constructor)))))))|(apply Nm.r;focus repeat constructor)|(apply Cl.p (hal);(focus ((repeat' (first|exact Lend.nil|apply Lend.keep|fail));done)))|(apply Cl.p (hva);(focus ((repeat' (first|exact Lend.nil|apply Lend.keep|fail));done)))|(apply Cl.p (hna);(focus ((repeat' (first|exact Lend.nil|apply Lend.keep|fail));done)))|(apply Cl.p (hha);(focus ((repeat' (first|exact Lend.nil|apply Lend.keep|fail));done)))|(apply Cl.p (hii);(focus ((repeat' (first|exact Lend.nil|apply Lend.keep|fail));done))))
 rename_i b3 b4 b5 b6 b8 _
 have hbe := behind_p m W e hm hr.clk c1 hr.st (by omega)
 have hi2 := inside35r_p (addE m W.state e)
 refine CA.loop (fun i : Nat => ⟨[(3, pm b3), (4, pm b4), (5, pm b5), (6, pm b6), (8, pm b8), (10, it i)], [mR b3 m, blkR b4 80 (rstC b l), blkR b5 37 (evC e), blkR b6 80 [nl0, it 0, nl0, nl0, nl0, nl0, nl0, nl0], blkR b8 75 (basC W)]⟩) (fun i => i ≤ l.length ∧ ∀ x ∈ l.take i, ¬ (HasC e.past x.rep x.num ∧ e.time ≤ x.time)) (fun i => l.length - i) 0 ⟨by repeat first|trivial|refine ⟨rfl,?_⟩,by repeat first|exact .nil|refine .cons (by repeat constructor) ?_⟩ ⟨Nat.zero_le _, by simp⟩ ?_
 rintro i ⟨hi, hno⟩
 by_cases hil : i < l.length
 ·obtain ⟨x, hx⟩ := get_of hil
  have hxl := List.mem_of_getElem? hx
  have hbf := before32_p x e
  by_cases hB : HasC e.past x.rep x.num
  ·rw [decide_eq_true (show BefE x e from ⟨(hl x hxl).1, c1.1, hB⟩)] at hbf
   by_cases ht : e.time ≤ x.time
   ·have hd : deliverF m l W e = (2, W) := by rw [deliverF, if_neg (fun h9 => h9 c1), if_neg c2, if_neg (fun h9 => h9 c3), if_pos (show LateE l e from ⟨x, hxl, hB, ht⟩)]
    rw [hev 2 (by decide) hd, hd]
    repeat' (first|refine Sp.h ?_|refine Lk.r rfl ?_|refine Rf.mk rfl ?_|(apply Bd.t;(focus first|assumption|omega|rfl))|refine OpK.r rfl ?_|(refine Im.mk ?_;intro _)|(apply TkB.r;(focus repeat constructor))|(apply Ix.q;(focus exact rfl);(focus assumption))|refine Ch.l ⟨rfl, rfl⟩ ?_|(apply SetAsk.r;(focus (repeat (first|exact SetAs.z|(apply SetAs.c;(focus (repeat first|assumption|constructor)))))))|(apply Nm.r;focus repeat constructor)|(apply CA.draw;(focus rfl);(focus kernel_rfl);(focus kernel_rfl);(focus repeat' constructor);(focus rfl))|(apply Cl.p (hbf);(focus ((repeat' (first|exact Lend.nil|apply Lend.keep|fail));done))))
    all_goals exact Fin.p rfl rfl
   ·repeat' (first|refine Sp.h ?_|refine Lk.r rfl ?_|refine Rf.mk rfl ?_|(apply Bd.t;(focus first|assumption|omega|rfl))|(apply Bd.f;(focus first|assumption|omega|exact Bool.false_ne_true))|refine OpK.r rfl ?_|(refine Im.mk ?_;intro _)|(apply TkB.r;(focus repeat constructor))|(apply Ix.q;(focus exact rfl);(focus assumption))|refine Ch.l ⟨rfl, rfl⟩ ?_|(apply CA.draw;(focus rfl);(focus kernel_rfl);(focus kernel_rfl);(focus repeat' constructor);(focus rfl))|(apply Ov.n;(focus first|omega|(simp <;> omega)))|(apply Cl.p (hbf);(focus ((repeat' (first|exact Lend.nil|apply Lend.keep|fail));done))))
    all_goals exact PA.lp (i + 1) ⟨by repeat first|trivial|refine ⟨rfl,?_⟩,by repeat first|exact .nil|refine .cons (by repeat constructor) ?_⟩ ⟨⟨hil, fun y hy => by
     rw [List.take_add_one, hx] at hy
     rcases List.mem_append.1 hy with hy|hy
     ·exact hno y hy
     ·rw [List.mem_singleton.1 hy];exact fun h9 => ht h9.2⟩, by omega⟩
  ·rw [decide_eq_false (show ¬ BefE x e from fun h9 => hB h9.2.2)] at hbf
   repeat' (first|refine Sp.h ?_|refine Lk.r rfl ?_|refine Rf.mk rfl ?_|(apply Bd.t;(focus first|assumption|omega|rfl))|refine OpK.r rfl ?_|(refine Im.mk ?_;intro _)|(apply TkB.r;(focus repeat constructor))|(apply Ix.q;(focus exact rfl);(focus assumption))|refine Ch.l ⟨rfl, rfl⟩ ?_|(apply CA.draw;(focus rfl);(focus kernel_rfl);(focus kernel_rfl);(focus repeat' constructor);(focus rfl))|(apply Ov.n;(focus first|omega|(simp <;> omega)))|(apply Cl.p (hbf);(focus ((repeat' (first|exact Lend.nil|apply Lend.keep|fail));done))))
   all_goals exact PA.lp (i + 1) ⟨by repeat first|trivial|refine ⟨rfl,?_⟩,by repeat first|exact .nil|refine .cons (by repeat constructor) ?_⟩ ⟨⟨hil, fun y hy => by
    rw [List.take_add_one, hx] at hy
    rcases List.mem_append.1 hy with hy|hy
    ·exact hno y hy
    ·rw [List.mem_singleton.1 hy];exact fun h9 => hB h9.1⟩, by omega⟩
 have hie : i = l.length := by omega
 subst hie
 rw [List.take_length] at hno
 have c4 : ¬ LateE l e := fun ⟨x, hx, h9⟩ => hno x hx h9
 by_cases c5 : insS (addE m W.state e)
 rotate_left
 ·have hk : e.kind = 0 := by
   by_cases hk : e.kind = 0
   ·exact hk
   ·exact absurd (by rw [addE, if_neg hk];exact hin) c5
  have hd : deliverF m l W e = (2, W) := by rw [deliverF, if_neg (fun h9 => h9 c1), if_neg c2, if_neg (fun h9 => h9 c3), if_neg c4, if_pos ⟨hk, c5⟩]
  rw [hev 2 (by decide) hd, hd]
  rw [decide_eq_false c5] at hi2
  repeat' (first|refine Sp.h ?_|refine Lk.r rfl ?_|refine Rf.mk rfl ?_|(apply Bd.f;(focus first|assumption|omega|exact Bool.false_ne_true))|(refine Im.mk ?_;intro _)|(refine All.mk ?_;intro _)|(apply TkB.r;(focus repeat constructor))|refine Ch.l ⟨rfl, rfl⟩ ?_|(apply SetAsk.r;(focus (repeat (first|exact SetAs.z|(apply SetAs.c;(focus (repeat first|assumption|constructor)))))))|(apply Nm.r;focus repeat constructor)|(apply Cl.p (hbe);(focus ((repeat' (first|exact Lend.nil|apply Lend.keep|fail));done)))|(apply Cl.p (hi2);(focus ((repeat' (first|exact Lend.nil|apply Lend.keep|fail));done))))
  all_goals exact Fin.p rfl rfl
 rw [decide_eq_true c5] at hi2
 have c5' : ¬ (e.kind = 0 ∧ ¬ insS (addE m W.state e)) := fun h9 => h9.2 c5
 by_cases c6 : (applyF m W.merged e).1 = 0
 rotate_left
 ·have hd : deliverF m l W e = ((applyF m W.merged e).1, W) := by rw [deliverF, if_neg (fun h9 => h9 c1), if_neg c2, if_neg (fun h9 => h9 c3), if_neg c4, if_neg c5', if_pos c6]
  rw [hev _ c6 hd, hd]
  repeat' (first|refine Sp.h ?_|refine Lk.r rfl ?_|refine Rf.mk rfl ?_|(apply Bd.t;(focus first|assumption|omega|rfl))|(apply Bd.f;(focus first|assumption|omega|exact Bool.false_ne_true))|(refine Im.mk ?_;intro _)|(refine All.mk ?_;intro _)|(apply TkB.r;(focus repeat constructor))|refine Ch.l ⟨rfl, rfl⟩ ?_|(apply SetAsk.r;(focus (repeat (first|exact SetAs.z|(apply SetAs.c;(focus (repeat first|assumption|constructor)))))))|(apply Nm.r;focus repeat constructor)|(apply Cl.p (hbe);(focus ((repeat' (first|exact Lend.nil|apply Lend.keep|fail));done)))|(apply Cl.p (hi2);(focus ((repeat' (first|exact Lend.nil|apply Lend.keep|fail));done))))
  all_goals exact Fin.p rfl rfl
 have hd : (deliverF m l W e).1 = 0 := by rw [deliverF, if_neg (fun h9 => h9 c1), if_neg c2, if_neg (fun h9 => h9 c3), if_neg c4, if_neg c5', if_neg (fun h9 => h9 c6)]
 rw [hd, evsD, if_pos hd]
 (repeat' (first|(show CA _ _ (Code.region 20 _ _) _ _;apply Stopped.out)|refine Sp.h ?_|refine Lk.r rfl ?_|refine Rf.mk rfl ?_|(apply Bd.t;(focus first|assumption|omega|rfl))|(apply Bd.f;(focus first|assumption|omega|exact Bool.false_ne_true))|refine OpK.r rfl ?_|(apply Om.mk;(focus first|omega|(simp <;> omega)))|(refine Im.mk ?_;intro _)|(refine All.mk ?_;intro _)|(apply TkA.r;(focus repeat constructor))|(apply TkB.r;(focus repeat constructor))|refine Ce.l rfl ?_|refine Ce.r ?_|refine Ch.l ⟨rfl, rfl⟩ ?_|(apply SetAk.r;(focus (repeat first|assumption|constructor)))|(apply SetAsk.r;(focus (repeat (first|exact SetAs.z|(apply SetAs.c;(focus (repeat first|assumption|constructor)))))))|(apply Fk.r;(focus (repeat (first|exact FillA.nil|(apply FillA.agg;(focus rfl);(focus rfl);(focus (repeat (first|exact SetAs.z|(apply SetAs.c;(focus (repeat first|assumption|constructor)))))))|(apply FillA.one;(focus rfl);(focus infer_instance);(focus (repeat first|assumption|constructor)))))))|(apply Nm.r;focus repeat constructor)|refine Rf.mk ⟨rfl, rfl⟩ ?_|refine Rf.mk ⟨rfl, rfl, rfl⟩ ?_|refine Mp.same ?_|(apply Mp.lit;(focus repeat (first|exact MpL.nil|(apply MpL.cons;(focus rfl))|(apply MpL.inv;(focus repeat constructor);(focus infer_instance)))))|(apply CA.draw;(focus rfl);(focus kernel_rfl);(focus kernel_rfl);(focus repeat' constructor);(focus rfl))|exact trivial|apply RA'.both|(apply Cl.p (hbe);(focus ((repeat' (first|exact Lend.nil|apply Lend.keep|fail));done)))|(apply Cl.p (hi2);(focus ((repeat' (first|exact Lend.nil|apply Lend.keep|fail));done)))));any_goals apply Stopped.mk
 have hll : ([] ++ l ++ [e]).length ≤ 100000 := by simp;omega
 all_goals
  (apply CA.own;(focus (apply OX.blk (b := b4);(focus repeat constructor);(focus (repeat' (first|exact FX.nil|(apply FX.s1;(focus repeat constructor);(focus first|omega|(simp;done)|(simp;omega)))|apply FX.k)));(focus repeat constructor))))
  repeat' (first|refine Sp.h ?_|refine Lk.r rfl ?_|refine Rf.mk rfl ?_|(apply TkB.r;(focus repeat constructor))|refine Ch.l ⟨rfl, rfl⟩ ?_|(apply SetAsk.r;(focus (repeat (first|exact SetAs.z|(apply SetAs.c;(focus (repeat first|assumption|constructor)))))))|(apply Nm.r;focus repeat constructor)|fail)
  all_goals exact Fin.p rfl rfl
end Go.Proofs.YtmllihbhphnolaaGreat
namespace Go.Proofs.YtmllihbhphnolaaGreat
open Go Go.CF
set_option maxRecDepth 20000
theorem join_ins {a b : List Int} (hl : b.length = a.length) (h : Ins b a) : joinC a b = a := by
 refine List.ext_getElem? fun i => ?_
 by_cases hi : i < a.length
 ·obtain ⟨x, hx⟩ := get_of hi
  obtain ⟨y, hy⟩ := get_of (l := b) (i := i) (by omega)
  have := h i y x hy hx
  have h9 : (joinC a b)[i]? = some (max x y) := (zipC_at (op := max) hl.symm).2 ⟨x, y, hx, hy, rfl⟩
  rw [h9, hx]
  congr 1
  omega
 ·rw [List.getElem?_eq_none (by rw [joinC_len hl.symm];omega), List.getElem?_eq_none (by omega)]
theorem srtD_with {l : List Int} (n : Int) (h : SrtI l) : srtD (l ++ [n]) = withP l n := by
 have h1 := withP_si (n := n) (⟨h, fun _ => Iff.rfl⟩ : SI l l)
 exact (h1.uniq (srtD_si _)).symm
theorem beh_deliver {m : ModS} {n : Nat} {l : List EvS} {W : NowS} {e : EvS} (hr : RefB m n W) (hs : SrtI W.places) (h : (deliverF m l W e).1 = 0) : (deliverF m l W e).2 = behF m W e := by
 obtain ⟨_, he, ha⟩ := deliver_ok' h
 have hins : Ins e.past W.clock := by
  unfold deliverF at h
  rw [if_neg (fun h9 => h9 he)] at h
  by_cases h2 : HasC W.clock e.rep e.num
  ·rw [if_pos h2] at h;exact absurd (show (6 : Int) = 0 from h) (by decide)
  ·rw [if_neg h2] at h
   by_cases h3 : Ins e.past W.clock
   ·exact h3
   ·rw [if_pos h3] at h;exact absurd (show (9 : Int) = 0 from h) (by decide)
 have hel : e.past.length = W.clock.length := by have := he.2.1;omega
 rw [deliver_st h]
 unfold behF
 rw [join_ins hel hins, if_pos ha, srtD_with _ hs]
 rfl
end Go.Proofs.YtmllihbhphnolaaGreat
namespace Go.Proofs.YtmllihbhphnolaaGreat
open Go Go.CF
set_option maxRecDepth 20000
def sumC (c : List Int) : Int := c.foldl (· + ·) 0
theorem sumC_succ {c : List Int} {i : Nat} {x : Int} (h : c[i]? = some x) : sumC (c.take (i + 1)) = sumC (c.take i) + x := by
 unfold sumC
 rw [List.take_add_one, h, Option.toList_some, List.foldl_append]
 rfl
theorem sumC_bnd {c : List Int} (h : ValC c) : ∀ i, i ≤ c.length → 0 ≤ sumC (c.take i) ∧ sumC (c.take i) ≤ 1024 * (i : Int) := by
 intro i
 induction i with
 | zero => intro _;simp [sumC]
 | succ i ih =>
  intro hi
  obtain ⟨x, hx⟩ := get_of (l := c) (i := i) (by omega)
  have h1 := ih (by omega)
  have h2 := h.1 x (List.mem_of_getElem? hx)
  unfold rngK at h2
  rw [sumC_succ hx]
  omega
theorem countR_p (c : List Int) (h : ValC c) : CallP Tryz.prog 177 [ints c] (it (sumC c)) := by
 have hv := validR_p c
 rw [decide_eq_true h] at hv
 have h5 := h.2
 refine CallA.of pg ord177 Tryz.func177 rfl Tryz.ntmps177 Tryz.results177 rfl fun h0 G0 O0 => ?_
 repeat' (first|refine Sp.h ?_|refine Lk.r rfl ?_|refine Rf.mk rfl ?_|fail)
 refine CA.loop (fun i : Nat => ⟨[(0, ints c), (3, it (sumC (c.take i))), (4, it i)], []⟩) (fun i => i ≤ c.length) (fun i => c.length - i) 0 ⟨by repeat first|trivial|refine ⟨rfl,?_⟩,by repeat first|exact .nil|refine .cons (by repeat constructor) ?_⟩ (Nat.zero_le _) ?_
 intro i hi
 have hb := sumC_bnd h i hi
 by_cases hin : i < c.length
 ·obtain ⟨x, hx⟩ := get_of hin
  have h2 := h.1 x (List.mem_of_getElem? hx)
  unfold rngK at h2
  repeat' (first|refine Sp.h ?_|refine Lk.r rfl ?_|refine Rf.mk rfl ?_|(apply Bd.t;(focus first|assumption|omega|rfl))|(refine Im.mk ?_;intro _)|(apply Ix.q;(focus exact rfl);(focus assumption))|(apply Ov.n;(focus first|omega|(simp <;> omega)))|(apply Cl.p (hv);(focus repeat' (first|exact Lend.nil|apply Lend.keep|fail))))
  rw [← sumC_succ hx]
  all_goals exact PA.lp (i + 1) ⟨by repeat first|trivial|refine ⟨rfl,?_⟩,by repeat first|exact .nil|refine .cons (by repeat constructor) ?_⟩ ⟨hin, by omega⟩
 ·have hie : i = c.length := by omega
  subst hie
  rw [List.take_length]
  repeat' (first|refine Sp.h ?_|refine Lk.r rfl ?_|refine Rf.mk rfl ?_|(apply Bd.f;(focus first|assumption|omega|exact Bool.false_ne_true))|(refine Im.mk ?_;intro _)|(apply Nm.r;focus repeat constructor)|(apply Cl.p (hv);(focus repeat' (first|fail))))
  all_goals exact Fin.p rfl rfl
theorem countP_p (c : List Int) (h : ValC c) : CallP Tryz.prog 49 [ints c] (it (sumC c)) := by
 have hv := validC_p c
 rw [decide_eq_true h] at hv
 have h5 := h.2
 refine CallA.of pg ord49 Tryz.func49 rfl Tryz.ntmps49 Tryz.results49 rfl fun h0 G0 O0 => ?_
 repeat' (first|refine Sp.h ?_|refine Lk.r rfl ?_|refine Rf.mk rfl ?_|(apply Bd.t;(focus first|assumption|omega|rfl))|(refine Im.mk ?_;intro _)|(apply Cl.p (hv);(focus repeat' (first|exact Lend.nil|apply Lend.keep|fail))))
 refine CA.loop (fun i : Nat => ⟨[(3, it (sumC (c.take i))), (9, ints c), (10, it (c.length : Nat)), (11, it i)], []⟩) (fun i => i ≤ c.length) (fun i => c.length - i) 0 ⟨by repeat first|trivial|refine ⟨rfl,?_⟩,by repeat first|exact .nil|refine .cons (by repeat constructor) ?_⟩ (Nat.zero_le _) ?_
 intro i hi
 have hb := sumC_bnd h i hi
 by_cases hin : i < c.length
 ·obtain ⟨x, hx⟩ := get_of hin
  have h2 := h.1 x (List.mem_of_getElem? hx)
  unfold rngK at h2
  repeat' (first|refine Sp.h ?_|refine Lk.r rfl ?_|refine Rf.mk rfl ?_|(apply Bd.t;(focus first|assumption|omega|rfl))|(apply Ix.q;(focus exact rfl);(focus assumption))|(apply Ov.n;(focus first|omega|(simp <;> omega)))|fail)
  rw [← sumC_succ hx]
  all_goals exact PA.lp (i + 1) ⟨by repeat first|trivial|refine ⟨rfl,?_⟩,by repeat first|exact .nil|refine .cons (by repeat constructor) ?_⟩ ⟨hin, by omega⟩
 ·have hie : i = c.length := by omega
  subst hie
  rw [List.take_length]
  repeat' (first|refine Sp.h ?_|refine Lk.r rfl ?_|refine Rf.mk rfl ?_|(apply Bd.f;(focus first|assumption|omega|exact Bool.false_ne_true))|(apply Nm.r;focus repeat constructor)|fail)
  all_goals exact Fin.p rfl rfl
structure HeadB (m : ModS) (b : NowS) : Prop where
 clk : ValC b.clock
 tm : 0 ≤ b.time ∧ b.time ≤ 1073741824
 zero : b.time = 0 ↔ sumC b.clock = 0
 st : b.state.length = strF m
 ins : insS b.state
 mg : ValL (mrgF m) b.merged
structure RightB (m : ModS) (b : NowS) : Prop where
 hd : HeadB m b
 mrk : ∀ g ∈ b.merged, ∀ x ∈ g.marks, HasC b.clock x.rep x.num ∧ x.time ≤ b.time
 pl : ∀ (i : Nat) p, b.places[i]? = some p → 1 ≤ p ∧ p ≤ 1024 ∧ ∀ q, 0 < i → b.places[i - 1]? = some q → q < p
noncomputable instance (m : ModS) (b : NowS) : Decidable (RightB m b) := Classical.propDecidable _
end Go.Proofs.YtmllihbhphnolaaGreat
namespace Go.Proofs.YtmllihbhphnolaaGreat
open Go Go.CF
set_option maxRecDepth 20000
abbrev basR (b : NowS) (r s : AV) : List AV := [ints b.clock, it b.time, ints b.state, mgs b.merged, r, s, ints b.places]
set_option maxHeartbeats 16000000 in
theorem validB_p (m : ModS) (b : NowS) (r s : AV) (hm : MOK m) : CallP Tryz.prog 121 [mdl m, .agg (basR b r s)] (bl (decide (RightB m b))) := by
 have h1 := validR_p b.clock
 by_cases c1 : ValC b.clock
 rotate_left
 ·have hn : ¬ RightB m b := fun h => c1 h.hd.clk
  rw [decide_eq_false c1] at h1
  rw [decide_eq_false hn]
  refine CallA.of pg ord121 Tryz.func121 rfl Tryz.ntmps121 Tryz.results121 rfl fun h0 G0 O0 => ?_
  repeat' (first|refine Sp.h ?_|refine Lk.r rfl ?_|refine Rf.mk rfl ?_|(apply Bd.f;(focus first|assumption|omega|exact Bool.false_ne_true))|refine OpK.r rfl ?_|(refine All.mk ?_;intro _)|(apply TkB.r;(focus repeat constructor))|(apply Nm.r;focus repeat constructor)|(apply CA.draw;(focus rfl);(focus kernel_rfl);(focus kernel_rfl);(focus repeat' constructor);(focus rfl))|(apply Cl.p (h1);(focus ((repeat' (first|exact Lend.nil|apply Lend.keep|fail));done))))
  all_goals exact Fin.p rfl rfl
 rw [decide_eq_true c1] at h1
 have h2 := countR_p b.clock c1
 by_cases c2 : 0 ≤ b.time
 rotate_left
 ·have hn : ¬ RightB m b := fun h => c2 h.hd.tm.1
  have c2' : b.time < 0 := by omega
  rw [decide_eq_false hn]
  refine CallA.of pg ord121 Tryz.func121 rfl Tryz.ntmps121 Tryz.results121 rfl fun h0 G0 O0 => ?_
  repeat' (first|refine Sp.h ?_|refine Lk.r rfl ?_|refine Rf.mk rfl ?_|(apply Bd.t;(focus first|assumption|omega|rfl))|refine OpK.r rfl ?_|(refine All.mk ?_;intro _)|(apply TkB.r;(focus repeat constructor))|(apply Nm.r;focus repeat constructor)|(apply CA.draw;(focus rfl);(focus kernel_rfl);(focus kernel_rfl);(focus repeat' constructor);(focus rfl))|(apply Cl.p (h1);(focus ((repeat' (first|exact Lend.nil|apply Lend.keep|fail));done)))|(apply Cl.p (h2);(focus ((repeat' (first|exact Lend.nil|apply Lend.keep|fail));done))))
  all_goals exact Fin.p rfl rfl
 have c2' : ¬ b.time < 0 := by omega
 by_cases c3 : b.time ≤ 1073741824
 rotate_left
 ·have hn : ¬ RightB m b := fun h => c3 h.hd.tm.2
  have c3' : 1073741824 < b.time := by omega
  rw [decide_eq_false hn]
  refine CallA.of pg ord121 Tryz.func121 rfl Tryz.ntmps121 Tryz.results121 rfl fun h0 G0 O0 => ?_
  repeat' (first|refine Sp.h ?_|refine Lk.r rfl ?_|refine Rf.mk rfl ?_|(apply Bd.t;(focus first|assumption|omega|rfl))|(apply Bd.f;(focus first|assumption|omega|exact Bool.false_ne_true))|refine OpK.r rfl ?_|(refine All.mk ?_;intro _)|(apply TkB.r;(focus repeat constructor))|(apply Nm.r;focus repeat constructor)|(apply CA.draw;(focus rfl);(focus kernel_rfl);(focus kernel_rfl);(focus repeat' constructor);(focus rfl))|(apply Cl.p (h1);(focus ((repeat' (first|exact Lend.nil|apply Lend.keep|fail));done)))|(apply Cl.p (h2);(focus ((repeat' (first|exact Lend.nil|apply Lend.keep|fail));done))))
  all_goals exact Fin.p rfl rfl
 have c3' : ¬ 1073741824 < b.time := by omega
 have h3 := strict32_p m hm.lay
 have h4 := inside35r_p b.state
 have h5 := validR34_p m b.merged hm.lay
 by_cases c4 : decide (b.time = 0) = decide (sumC b.clock = 0)
 rotate_left
 ·have hn : ¬ RightB m b := fun h => c4 (decide_eq_decide.2 h.hd.zero)
  rw [decide_eq_false hn]
  refine CallA.of pg ord121 Tryz.func121 rfl Tryz.ntmps121 Tryz.results121 rfl fun h0 G0 O0 => ?_
  repeat' (first|refine Sp.h ?_|refine Lk.r rfl ?_|refine Rf.mk rfl ?_|(apply Bd.t;(focus first|assumption|omega|rfl))|(apply Bd.f;(focus first|assumption|omega|exact Bool.false_ne_true))|refine OpK.r rfl ?_|(refine All.mk ?_;intro _)|(apply TkB.r;(focus repeat constructor))|(apply Nm.r;focus repeat constructor)|(apply CA.draw;(focus rfl);(focus kernel_rfl);(focus kernel_rfl);(focus repeat' constructor);(focus rfl))|(apply Cl.p (h1);(focus ((repeat' (first|exact Lend.nil|apply Lend.keep|fail));done)))|(apply Cl.p (h2);(focus ((repeat' (first|exact Lend.nil|apply Lend.keep|fail));done)))|(apply Cl.p (h3);(focus ((repeat' (first|exact Lend.nil|apply Lend.keep|fail));done)))|(apply Cl.p (h4);(focus ((repeat' (first|exact Lend.nil|apply Lend.keep|fail));done)))|(apply Cl.p (h5);(focus ((repeat' (first|exact Lend.nil|apply Lend.keep|fail));done))))
  all_goals exact Fin.p rfl rfl
 by_cases c5 : ((b.state.length : Nat) : Int) = (strF m : Nat)
 rotate_left
 ·have hn : ¬ RightB m b := fun h => c5 (by rw [h.hd.st])
  rw [decide_eq_false hn]
  refine CallA.of pg ord121 Tryz.func121 rfl Tryz.ntmps121 Tryz.results121 rfl fun h0 G0 O0 => ?_
  repeat' (first|refine Sp.h ?_|refine Lk.r rfl ?_|refine Rf.mk rfl ?_|(apply Bd.t;(focus first|assumption|omega|rfl))|(apply Bd.f;(focus first|assumption|omega|exact Bool.false_ne_true))|refine OpK.r rfl ?_|(refine Im.mk ?_;intro _)|(refine All.mk ?_;intro _)|(apply TkB.r;(focus repeat constructor))|refine Ch.l ⟨rfl, rfl⟩ ?_|(apply Nm.r;focus repeat constructor)|(apply CA.draw;(focus rfl);(focus kernel_rfl);(focus kernel_rfl);(focus repeat' constructor);(focus rfl))|(apply Cl.p (h1);(focus ((repeat' (first|exact Lend.nil|apply Lend.keep|fail));done)))|(apply Cl.p (h2);(focus ((repeat' (first|exact Lend.nil|apply Lend.keep|fail));done)))|(apply Cl.p (h3);(focus ((repeat' (first|exact Lend.nil|apply Lend.keep|fail));done)))|(apply Cl.p (h4);(focus ((repeat' (first|exact Lend.nil|apply Lend.keep|fail));done)))|(apply Cl.p (h5);(focus ((repeat' (first|exact Lend.nil|apply Lend.keep|fail));done))))
  all_goals exact Fin.p rfl rfl
 by_cases c6 : insS b.state
 rotate_left
 ·have hn : ¬ RightB m b := fun h => c6 h.hd.ins
  rw [decide_eq_false hn]
  refine CallA.of pg ord121 Tryz.func121 rfl Tryz.ntmps121 Tryz.results121 rfl fun h0 G0 O0 => ?_
  repeat' (first|refine Sp.h ?_|refine Lk.r rfl ?_|refine Rf.mk rfl ?_|(apply Bd.t;(focus first|assumption|omega|rfl))|(apply Bd.f;(focus first|assumption|omega|exact Bool.false_ne_true))|refine OpK.r rfl ?_|(refine Im.mk ?_;intro _)|(refine All.mk ?_;intro _)|(apply TkB.r;(focus repeat constructor))|refine Ch.l ⟨rfl, rfl⟩ ?_|(apply Nm.r;focus repeat constructor)|(apply CA.draw;(focus rfl);(focus kernel_rfl);(focus kernel_rfl);(focus repeat' constructor);(focus rfl))|(apply Cl.p (h1);(focus ((repeat' (first|exact Lend.nil|apply Lend.keep|fail));done)))|(apply Cl.p (h2);(focus ((repeat' (first|exact Lend.nil|apply Lend.keep|fail));done)))|(apply Cl.p (h3);(focus ((repeat' (first|exact Lend.nil|apply Lend.keep|fail));done)))|(apply Cl.p (h4);(focus ((repeat' (first|exact Lend.nil|apply Lend.keep|fail));done)))|(apply Cl.p (h5);(focus ((repeat' (first|exact Lend.nil|apply Lend.keep|fail));done))))
  all_goals exact Fin.p rfl rfl
 by_cases c7 : ValL (mrgF m) b.merged
 rotate_left
 ·have hn : ¬ RightB m b := fun h => c7 h.hd.mg
  rw [decide_eq_false hn]
  refine CallA.of pg ord121 Tryz.func121 rfl Tryz.ntmps121 Tryz.results121 rfl fun h0 G0 O0 => ?_
  repeat' (first|refine Sp.h ?_|refine Lk.r rfl ?_|refine Rf.mk rfl ?_|(apply Bd.t;(focus first|assumption|omega|rfl))|(apply Bd.f;(focus first|assumption|omega|exact Bool.false_ne_true))|refine OpK.r rfl ?_|(refine Im.mk ?_;intro _)|(refine All.mk ?_;intro _)|(apply TkB.r;(focus repeat constructor))|refine Ch.l ⟨rfl, rfl⟩ ?_|(apply Nm.r;focus repeat constructor)|(apply CA.draw;(focus rfl);(focus kernel_rfl);(focus kernel_rfl);(focus repeat' constructor);(focus rfl))|(apply Cl.p (h1);(focus ((repeat' (first|exact Lend.nil|apply Lend.keep|fail));done)))|(apply Cl.p (h2);(focus ((repeat' (first|exact Lend.nil|apply Lend.keep|fail));done)))|(apply Cl.p (h3);(focus ((repeat' (first|exact Lend.nil|apply Lend.keep|fail));done)))|(apply Cl.p (h4);(focus ((repeat' (first|exact Lend.nil|apply Lend.keep|fail));done)))|(apply Cl.p (h5);(focus ((repeat' (first|exact Lend.nil|apply Lend.keep|fail));done))))
  all_goals exact Fin.p rfl rfl
 have hH : HeadB m b := ⟨c1, ⟨c2, c3⟩, decide_eq_decide.1 c4, by omega, c6, c7⟩
 refine CallA.of pg ord121 Tryz.func121 rfl Tryz.ntmps121 Tryz.results121 rfl fun h0 G0 O0 => ?_
 repeat' (first|refine Sp.h ?_|refine Lk.r rfl ?_|refine Rf.mk rfl ?_|(apply Bd.t;(focus first|assumption|omega|rfl))|(apply Bd.f;(focus first|assumption|omega|exact Bool.false_ne_true))|refine OpK.r rfl ?_|(refine Im.mk ?_;intro _)|(refine All.mk ?_;intro _)|(apply TkB.r;(focus repeat constructor))|refine Ch.l ⟨rfl, rfl⟩ ?_|(apply CA.draw;(focus rfl);(focus kernel_rfl);(focus kernel_rfl);(focus repeat' constructor);(focus rfl))|(apply Cl.p (h1);(focus ((repeat' (first|exact Lend.nil|apply Lend.keep|fail));done)))|(apply Cl.p (h2);(focus ((repeat' (first|exact Lend.nil|apply Lend.keep|fail));done)))|(apply Cl.p (h3);(focus ((repeat' (first|exact Lend.nil|apply Lend.keep|fail));done)))|(apply Cl.p (h4);(focus ((repeat' (first|exact Lend.nil|apply Lend.keep|fail));done)))|(apply Cl.p (h5);(focus ((repeat' (first|exact Lend.nil|apply Lend.keep|fail));done))))
 rename_i b2 b3 _
 refine CA.loop (fun i : Nat => ⟨[(3, pm b3), (5, it i)], [blkR b3 75 (basR b r s)]⟩) (fun i => i ≤ b.merged.length ∧ ∀ g ∈ b.merged.take i, ∀ x ∈ g.marks, HasC b.clock x.rep x.num ∧ x.time ≤ b.time) (fun i => b.merged.length - i) 0 ⟨by repeat first|trivial|refine ⟨rfl,?_⟩,by repeat first|exact .nil|refine .cons (by repeat constructor) ?_⟩ ⟨Nat.zero_le _, by simp⟩ ?_
 rintro i ⟨hi, hm1⟩
 by_cases hin : i < b.merged.length
 rotate_left
 ·have hie : i = b.merged.length := by omega
  subst hie
  rw [List.take_length] at hm1
  repeat' (first|refine Sp.h ?_|refine Lk.r rfl ?_|refine Rf.mk rfl ?_|(apply Bd.f;(focus first|assumption|omega|exact Bool.false_ne_true))|(refine Im.mk ?_;intro _)|(apply TkB.r;(focus repeat constructor))|fail)
  refine CA.loop (fun j : Nat => ⟨[(3, pm b3), (8, it j)], [blkR b3 75 (basR b r s)]⟩) (fun j => j ≤ b.places.length ∧ ∀ (i : Nat) p, i < j → b.places[i]? = some p → 1 ≤ p ∧ p ≤ 1024 ∧ ∀ q, 0 < i → b.places[i - 1]? = some q → q < p) (fun j => b.places.length - j) 0 ⟨by repeat first|trivial|refine ⟨rfl,?_⟩,by repeat first|exact .nil|refine .cons (by repeat constructor) ?_⟩ ⟨Nat.zero_le _, fun i p h9 => by omega⟩ ?_
  rintro j ⟨hj, hpp⟩
  by_cases hjn : j < b.places.length
  rotate_left
  ·have hje : j = b.places.length := by omega
   subst hje
   have hR : RightB m b := ⟨hH, hm1, fun i p hp => hpp i p (List.getElem?_eq_some_iff.1 hp).1 hp⟩
   rw [decide_eq_true hR]
   repeat' (first|refine Sp.h ?_|refine Lk.r rfl ?_|refine Rf.mk rfl ?_|(apply Bd.f;(focus first|assumption|omega|exact Bool.false_ne_true))|(refine Im.mk ?_;intro _)|(apply TkB.r;(focus repeat constructor))|(apply Nm.r;focus repeat constructor)|fail)
   exact Fin.p rfl rfl
  obtain ⟨p, hp⟩ := get_of hjn
  by_cases d1 : p < 1
  ·have hn : ¬ RightB m b := fun h => by have := (h.pl j p hp).1;omega
   rw [decide_eq_false hn]
   repeat' (first|refine Sp.h ?_|refine Lk.r rfl ?_|refine Rf.mk rfl ?_|(apply Bd.t;(focus first|assumption|omega|rfl))|refine OpK.r rfl ?_|(refine Im.mk ?_;intro _)|(apply TkB.r;(focus repeat constructor))|(apply Ix.q;(focus exact rfl);(focus assumption))|(apply Nm.r;focus repeat constructor)|(apply CA.draw;(focus rfl);(focus kernel_rfl);(focus kernel_rfl);(focus repeat' constructor);(focus rfl))|fail)
   all_goals exact Fin.p rfl rfl
  by_cases d2 : 1024 < p
  ·have hn : ¬ RightB m b := fun h => by have := (h.pl j p hp).2.1;omega
   rw [decide_eq_false hn]
   repeat' (first|refine Sp.h ?_|refine Lk.r rfl ?_|refine Rf.mk rfl ?_|(apply Bd.t;(focus first|assumption|omega|rfl))|(apply Bd.f;(focus first|assumption|omega|exact Bool.false_ne_true))|refine OpK.r rfl ?_|(refine Im.mk ?_;intro _)|(apply TkB.r;(focus repeat constructor))|(apply Ix.q;(focus exact rfl);(focus assumption))|(apply Nm.r;focus repeat constructor)|(apply CA.draw;(focus rfl);(focus kernel_rfl);(focus kernel_rfl);(focus repeat' constructor);(focus rfl))|fail)
   all_goals exact Fin.p rfl rfl
  have step : (∀ q, 0 < j → b.places[j - 1]? = some q → q < p) → ∀ (i : Nat) p, i < j + 1 → b.places[i]? = some p → 1 ≤ p ∧ p ≤ 1024 ∧ ∀ q, 0 < i → b.places[i - 1]? = some q → q < p := fun h9 i p' hi' hp' => by
   by_cases hie : i = j
   ·subst hie
    rw [hp] at hp';cases hp'
    exact ⟨by omega, by omega, h9⟩
   ·exact hpp i p' (by omega) hp'
  cases j with
  | zero =>
   repeat' (first|refine Sp.h ?_|refine Lk.r rfl ?_|refine Rf.mk rfl ?_|(apply Bd.t;(focus first|assumption|omega|rfl))|(apply Bd.f;(focus first|assumption|omega|exact Bool.false_ne_true))|refine OpK.r rfl ?_|(refine Im.mk ?_;intro _)|(apply TkB.r;(focus repeat constructor))|(apply Ix.q;(focus exact rfl);(focus assumption))|(apply CA.draw;(focus rfl);(focus kernel_rfl);(focus kernel_rfl);(focus repeat' constructor);(focus rfl))|(apply Ov.n;(focus first|omega|(simp <;> omega)))|fail)
   all_goals exact PA.lp 1 ⟨by repeat first|trivial|refine ⟨rfl,?_⟩,by repeat first|exact .nil|refine .cons (by repeat constructor) ?_⟩ ⟨⟨hjn, step fun q h9 => by omega⟩, by omega⟩
  | succ j =>
   obtain ⟨q, hq⟩ := get_of (l := b.places) (i := j) (by omega)
   have e1 : ((j + 1 : Nat) : Int) - 1 = (j : Nat) := by omega
   by_cases d3 : q < p
   ·have d3' : ¬ p ≤ q := by omega
    repeat' (first|refine Sp.h ?_|refine Lk.r rfl ?_|refine Rf.mk rfl ?_|(apply Bd.t;(focus first|assumption|omega|rfl))|(apply Bd.f;(focus first|assumption|omega|exact Bool.false_ne_true))|refine OpK.r rfl ?_|(refine Im.mk ?_;intro _)|(apply TkB.r;(focus repeat constructor))|(apply Ix.q;(focus exact rfl);(focus assumption))|(apply Ix.r;(focus assumption);(focus omega))|(apply CA.draw;(focus rfl);(focus kernel_rfl);(focus kernel_rfl);(focus repeat' constructor);(focus rfl))|(apply Ov.n;(focus first|omega|(simp <;> omega)))|fail)
    all_goals exact PA.lp (j + 1 + 1) ⟨by repeat first|trivial|refine ⟨rfl,?_⟩,by repeat first|exact .nil|refine .cons (by repeat constructor) ?_⟩ ⟨⟨hjn, step fun q' _ hq' => by
     have hq' : b.places[j]? = some q' := hq'
     rw [hq] at hq';cases hq';exact d3⟩, by omega⟩
   ·have d3' : p ≤ q := by omega
    have hn : ¬ RightB m b := fun h => by have := (h.pl (j + 1) p hp).2.2 q (by omega) hq;omega
    rw [decide_eq_false hn]
    repeat' (first|refine Sp.h ?_|refine Lk.r rfl ?_|refine Rf.mk rfl ?_|(apply Bd.t;(focus first|assumption|omega|rfl))|(apply Bd.f;(focus first|assumption|omega|exact Bool.false_ne_true))|refine OpK.r rfl ?_|(refine Im.mk ?_;intro _)|(apply TkB.r;(focus repeat constructor))|(apply Ix.q;(focus exact rfl);(focus assumption))|(apply Ix.r;(focus assumption);(focus omega))|(apply Nm.r;focus repeat constructor)|(apply CA.draw;(focus rfl);(focus kernel_rfl);(focus kernel_rfl);(focus repeat' constructor);(focus rfl))|(apply Ov.n;(focus first|omega|(simp <;> omega)))|fail)
    all_goals exact Fin.p rfl rfl
 obtain ⟨g, hg⟩ := get_of hin
 have hgm := List.mem_of_getElem? hg
 repeat' (first|refine Sp.h ?_|refine Lk.r rfl ?_|refine Rf.mk rfl ?_|(apply Bd.t;(focus first|assumption|omega|rfl))|(refine Im.mk ?_;intro _)|(apply TkB.r;(focus repeat constructor))|fail)
 refine CA.loop (fun k : Nat => ⟨[(3, pm b3), (5, it i), (6, it k)], [blkR b3 75 (basR b r s)]⟩) (fun k => k ≤ g.marks.length ∧ ∀ x ∈ g.marks.take k, HasC b.clock x.rep x.num ∧ x.time ≤ b.time) (fun k => g.marks.length - k) 0 ⟨by repeat first|trivial|refine ⟨rfl,?_⟩,by repeat first|exact .nil|refine .cons (by repeat constructor) ?_⟩ ⟨Nat.zero_le _, by simp⟩ ?_
 rintro k ⟨hk, hmk⟩
 by_cases hkn : k < g.marks.length
 rotate_left
 ·have hke : k = g.marks.length := by omega
  subst hke
  rw [List.take_length] at hmk
  repeat' (first|refine Sp.h ?_|refine Lk.r rfl ?_|refine Rf.mk rfl ?_|(apply Bd.f;(focus first|assumption|omega|exact Bool.false_ne_true))|(refine Im.mk ?_;intro _)|(apply TkB.r;(focus repeat constructor))|(apply Ix.q;(focus exact rfl);(focus assumption))|(apply Ov.n;(focus first|omega|(simp <;> omega)))|fail)
  all_goals exact PA.lp (i + 1) ⟨by repeat first|trivial|refine ⟨rfl,?_⟩,by repeat first|exact .nil|refine .cons (by repeat constructor) ?_⟩ ⟨⟨hin, fun g' hg' => by
   rw [List.take_add_one, hg] at hg'
   rcases List.mem_append.1 hg' with hg' | hg'
   ·exact hm1 g' hg'
   ·rw [List.mem_singleton.1 hg'];exact hmk⟩, by omega⟩
 obtain ⟨x, hx⟩ := get_of hkn
 have hha := hasR_p b.clock x.rep x.num
 by_cases d1 : b.time < x.time
 ·have hn : ¬ RightB m b := fun h => by have := (h.mrk g hgm x (List.mem_of_getElem? hx)).2;omega
  rw [decide_eq_false hn]
  repeat' (first|refine Sp.h ?_|refine Lk.r rfl ?_|refine Rf.mk rfl ?_|(apply Bd.t;(focus first|assumption|omega|rfl))|(refine Im.mk ?_;intro _)|(refine All.mk ?_;intro _)|(apply TkB.r;(focus repeat constructor))|(apply Ix.q;(focus exact rfl);(focus assumption))|refine Ch.l ⟨rfl, rfl⟩ ?_|(apply SetAsk.r;(focus (repeat (first|exact SetAs.z|(apply SetAs.c;(focus (repeat first|assumption|constructor)))))))|(apply Nm.r;focus repeat constructor)|(apply Cl.p (hha);(focus ((repeat' (first|fail));done))))
  all_goals exact Fin.p rfl rfl
 by_cases d2 : HasC b.clock x.rep x.num
 rotate_left
 ·have hn : ¬ RightB m b := fun h => d2 (h.mrk g hgm x (List.mem_of_getElem? hx)).1
  rw [decide_eq_false hn]
  rw [decide_eq_false d2] at hha
  repeat' (first|refine Sp.h ?_|refine Lk.r rfl ?_|refine Rf.mk rfl ?_|(apply Bd.t;(focus first|assumption|omega|rfl))|(apply Bd.f;(focus first|assumption|omega|exact Bool.false_ne_true))|(refine Im.mk ?_;intro _)|(refine All.mk ?_;intro _)|(apply TkB.r;(focus repeat constructor))|(apply Ix.q;(focus exact rfl);(focus assumption))|refine Ch.l ⟨rfl, rfl⟩ ?_|(apply SetAsk.r;(focus (repeat (first|exact SetAs.z|(apply SetAs.c;(focus (repeat first|assumption|constructor)))))))|(apply Fk.r;(focus (repeat (first|exact FillA.nil|(apply FillA.agg;(focus rfl);(focus rfl);(focus (repeat (first|exact SetAs.z|(apply SetAs.c;(focus (repeat first|assumption|constructor)))))))|(apply FillA.one;(focus rfl);(focus infer_instance);(focus (repeat first|assumption|constructor)))))))|(apply Nm.r;focus repeat constructor)|(apply Cl.p (hha);(focus ((repeat' (first|exact Lend.nil|apply Lend.keep|fail));done))))
  all_goals exact Fin.p rfl rfl
 rw [decide_eq_true d2] at hha
 repeat' (first|refine Sp.h ?_|refine Lk.r rfl ?_|refine Rf.mk rfl ?_|(apply Bd.t;(focus first|assumption|omega|rfl))|(apply Bd.f;(focus first|assumption|omega|exact Bool.false_ne_true))|(refine Im.mk ?_;intro _)|(refine All.mk ?_;intro _)|(apply TkB.r;(focus repeat constructor))|(apply Ix.q;(focus exact rfl);(focus assumption))|refine Ch.l ⟨rfl, rfl⟩ ?_|(apply SetAsk.r;(focus (repeat (first|exact SetAs.z|(apply SetAs.c;(focus (repeat first|assumption|constructor)))))))|(apply Fk.r;(focus (repeat (first|exact FillA.nil|(apply FillA.agg;(focus rfl);(focus rfl);(focus (repeat (first|exact SetAs.z|(apply SetAs.c;(focus (repeat first|assumption|constructor)))))))|(apply FillA.one;(focus rfl);(focus infer_instance);(focus (repeat first|assumption|constructor)))))))|(apply Nm.r;focus repeat constructor)|(apply Ov.n;(focus first|omega|(simp <;> omega)))|(apply Cl.p (hha);(focus ((repeat' (first|exact Lend.nil|apply Lend.keep|fail));done))))
 all_goals exact PA.lp (k + 1) ⟨by repeat first|trivial|refine ⟨rfl,?_⟩,by repeat first|exact .nil|refine .cons (by repeat constructor) ?_⟩ ⟨⟨hkn, fun y hy => by
  rw [List.take_add_one, hx] at hy
  rcases List.mem_append.1 hy with hy|hy
  ·exact hmk y hy
  ·rw [List.mem_singleton.1 hy];exact ⟨d2, by omega⟩⟩, by omega⟩
end Go.Proofs.YtmllihbhphnolaaGreat
namespace Go.Proofs.YtmllihbhphnolaaGreat
open Go Go.CF
set_option maxRecDepth 20000
set_option maxHeartbeats 16000000 in
theorem rightB_p (m : ModS) (b : NowS) (r s : AV) (hm : MOK m) : CallP Tryz.prog 119 [mdl m, .agg (basR b r s)] (bl (decide (RightB m b))) := by
 have h1 := validC_p b.clock
 by_cases c1 : ValC b.clock
 rotate_left
 ·have hn : ¬ RightB m b := fun h => c1 h.hd.clk
  rw [decide_eq_false c1] at h1
  rw [decide_eq_false hn]
  refine CallA.of pg ord119 Tryz.func119 rfl Tryz.ntmps119 Tryz.results119 rfl fun h0 G0 O0 => ?_
  repeat' (first|refine Sp.h ?_|refine Lk.r rfl ?_|refine Rf.mk rfl ?_|(apply Bd.f;(focus first|assumption|omega|exact Bool.false_ne_true))|refine OpK.r rfl ?_|(refine All.mk ?_;intro _)|(apply TkB.r;(focus repeat constructor))|(apply Nm.r;focus repeat constructor)|(apply CA.draw;(focus rfl);(focus kernel_rfl);(focus kernel_rfl);(focus repeat' constructor);(focus rfl))|(apply Cl.p (h1);(focus ((repeat' (first|exact Lend.nil|apply Lend.keep|fail));done))))
  all_goals exact Fin.p rfl rfl
 rw [decide_eq_true c1] at h1
 have h2 := countP_p b.clock c1
 by_cases c2 : 0 ≤ b.time
 rotate_left
 ·have hn : ¬ RightB m b := fun h => c2 h.hd.tm.1
  have c2' : b.time < 0 := by omega
  rw [decide_eq_false hn]
  refine CallA.of pg ord119 Tryz.func119 rfl Tryz.ntmps119 Tryz.results119 rfl fun h0 G0 O0 => ?_
  repeat' (first|refine Sp.h ?_|refine Lk.r rfl ?_|refine Rf.mk rfl ?_|(apply Bd.t;(focus first|assumption|omega|rfl))|refine OpK.r rfl ?_|(refine All.mk ?_;intro _)|(apply TkB.r;(focus repeat constructor))|(apply Nm.r;focus repeat constructor)|(apply CA.draw;(focus rfl);(focus kernel_rfl);(focus kernel_rfl);(focus repeat' constructor);(focus rfl))|(apply Cl.p (h1);(focus ((repeat' (first|exact Lend.nil|apply Lend.keep|fail));done)))|(apply Cl.p (h2);(focus ((repeat' (first|exact Lend.nil|apply Lend.keep|fail));done))))
  all_goals exact Fin.p rfl rfl
 have c2' : ¬ b.time < 0 := by omega
 by_cases c3 : b.time ≤ 1073741824
 rotate_left
 ·have hn : ¬ RightB m b := fun h => c3 h.hd.tm.2
  have c3' : 1073741824 < b.time := by omega
  rw [decide_eq_false hn]
  refine CallA.of pg ord119 Tryz.func119 rfl Tryz.ntmps119 Tryz.results119 rfl fun h0 G0 O0 => ?_
  repeat' (first|refine Sp.h ?_|refine Lk.r rfl ?_|refine Rf.mk rfl ?_|(apply Bd.t;(focus first|assumption|omega|rfl))|(apply Bd.f;(focus first|assumption|omega|exact Bool.false_ne_true))|refine OpK.r rfl ?_|(refine All.mk ?_;intro _)|(apply TkB.r;(focus repeat constructor))|(apply Nm.r;focus repeat constructor)|(apply CA.draw;(focus rfl);(focus kernel_rfl);(focus kernel_rfl);(focus repeat' constructor);(focus rfl))|(apply Cl.p (h1);(focus ((repeat' (first|exact Lend.nil|apply Lend.keep|fail));done)))|(apply Cl.p (h2);(focus ((repeat' (first|exact Lend.nil|apply Lend.keep|fail));done))))
  all_goals exact Fin.p rfl rfl
 have c3' : ¬ 1073741824 < b.time := by omega
 have h3 := cells35_p m hm.lay
 have h4 := inside35_p b.state
 have h5 := validM_p m b.merged hm.lay
 by_cases c4 : decide (b.time = 0) = decide (sumC b.clock = 0)
 rotate_left
 ·have hn : ¬ RightB m b := fun h => c4 (decide_eq_decide.2 h.hd.zero)
  rw [decide_eq_false hn]
  refine CallA.of pg ord119 Tryz.func119 rfl Tryz.ntmps119 Tryz.results119 rfl fun h0 G0 O0 => ?_
  repeat' (first|refine Sp.h ?_|refine Lk.r rfl ?_|refine Rf.mk rfl ?_|(apply Bd.t;(focus first|assumption|omega|rfl))|(apply Bd.f;(focus first|assumption|omega|exact Bool.false_ne_true))|refine OpK.r rfl ?_|(refine All.mk ?_;intro _)|(apply TkB.r;(focus repeat constructor))|(apply Nm.r;focus repeat constructor)|(apply CA.draw;(focus rfl);(focus kernel_rfl);(focus kernel_rfl);(focus repeat' constructor);(focus rfl))|(apply Cl.p (h1);(focus ((repeat' (first|exact Lend.nil|apply Lend.keep|fail));done)))|(apply Cl.p (h2);(focus ((repeat' (first|exact Lend.nil|apply Lend.keep|fail));done)))|(apply Cl.p (h3);(focus ((repeat' (first|exact Lend.nil|apply Lend.keep|fail));done)))|(apply Cl.p (h4);(focus ((repeat' (first|exact Lend.nil|apply Lend.keep|fail));done)))|(apply Cl.p (h5);(focus ((repeat' (first|exact Lend.nil|apply Lend.keep|fail));done))))
  all_goals exact Fin.p rfl rfl
 by_cases c5 : ((b.state.length : Nat) : Int) = (strF m : Nat)
 rotate_left
 ·have hn : ¬ RightB m b := fun h => c5 (by rw [h.hd.st])
  rw [decide_eq_false hn]
  refine CallA.of pg ord119 Tryz.func119 rfl Tryz.ntmps119 Tryz.results119 rfl fun h0 G0 O0 => ?_
  repeat' (first|refine Sp.h ?_|refine Lk.r rfl ?_|refine Rf.mk rfl ?_|(apply Bd.t;(focus first|assumption|omega|rfl))|(apply Bd.f;(focus first|assumption|omega|exact Bool.false_ne_true))|refine OpK.r rfl ?_|(refine Im.mk ?_;intro _)|(refine All.mk ?_;intro _)|(apply TkB.r;(focus repeat constructor))|refine Ch.l ⟨rfl, rfl⟩ ?_|(apply Nm.r;focus repeat constructor)|(apply CA.draw;(focus rfl);(focus kernel_rfl);(focus kernel_rfl);(focus repeat' constructor);(focus rfl))|(apply Cl.p (h1);(focus ((repeat' (first|exact Lend.nil|apply Lend.keep|fail));done)))|(apply Cl.p (h2);(focus ((repeat' (first|exact Lend.nil|apply Lend.keep|fail));done)))|(apply Cl.p (h3);(focus ((repeat' (first|exact Lend.nil|apply Lend.keep|fail));done)))|(apply Cl.p (h4);(focus ((repeat' (first|exact Lend.nil|apply Lend.keep|fail));done)))|(apply Cl.p (h5);(focus ((repeat' (first|exact Lend.nil|apply Lend.keep|fail));done))))
  all_goals exact Fin.p rfl rfl
 by_cases c6 : insS b.state
 rotate_left
 ·have hn : ¬ RightB m b := fun h => c6 h.hd.ins
  rw [decide_eq_false hn]
  refine CallA.of pg ord119 Tryz.func119 rfl Tryz.ntmps119 Tryz.results119 rfl fun h0 G0 O0 => ?_
  repeat' (first|refine Sp.h ?_|refine Lk.r rfl ?_|refine Rf.mk rfl ?_|(apply Bd.t;(focus first|assumption|omega|rfl))|(apply Bd.f;(focus first|assumption|omega|exact Bool.false_ne_true))|refine OpK.r rfl ?_|(refine Im.mk ?_;intro _)|(refine All.mk ?_;intro _)|(apply TkB.r;(focus repeat constructor))|refine Ch.l ⟨rfl, rfl⟩ ?_|(apply Nm.r;focus repeat constructor)|(apply CA.draw;(focus rfl);(focus kernel_rfl);(focus kernel_rfl);(focus repeat' constructor);(focus rfl))|(apply Cl.p (h1);(focus ((repeat' (first|exact Lend.nil|apply Lend.keep|fail));done)))|(apply Cl.p (h2);(focus ((repeat' (first|exact Lend.nil|apply Lend.keep|fail));done)))|(apply Cl.p (h3);(focus ((repeat' (first|exact Lend.nil|apply Lend.keep|fail));done)))|(apply Cl.p (h4);(focus ((repeat' (first|exact Lend.nil|apply Lend.keep|fail));done)))|(apply Cl.p (h5);(focus ((repeat' (first|exact Lend.nil|apply Lend.keep|fail));done))))
  all_goals exact Fin.p rfl rfl
 by_cases c7 : ValL (mrgF m) b.merged
 rotate_left
 ·have hn : ¬ RightB m b := fun h => c7 h.hd.mg
  rw [decide_eq_false hn]
  refine CallA.of pg ord119 Tryz.func119 rfl Tryz.ntmps119 Tryz.results119 rfl fun h0 G0 O0 => ?_
  repeat' (first|refine Sp.h ?_|refine Lk.r rfl ?_|refine Rf.mk rfl ?_|(apply Bd.t;(focus first|assumption|omega|rfl))|(apply Bd.f;(focus first|assumption|omega|exact Bool.false_ne_true))|refine OpK.r rfl ?_|(refine Im.mk ?_;intro _)|(refine All.mk ?_;intro _)|(apply TkB.r;(focus repeat constructor))|refine Ch.l ⟨rfl, rfl⟩ ?_|(apply Nm.r;focus repeat constructor)|(apply CA.draw;(focus rfl);(focus kernel_rfl);(focus kernel_rfl);(focus repeat' constructor);(focus rfl))|(apply Cl.p (h1);(focus ((repeat' (first|exact Lend.nil|apply Lend.keep|fail));done)))|(apply Cl.p (h2);(focus ((repeat' (first|exact Lend.nil|apply Lend.keep|fail));done)))|(apply Cl.p (h3);(focus ((repeat' (first|exact Lend.nil|apply Lend.keep|fail));done)))|(apply Cl.p (h4);(focus ((repeat' (first|exact Lend.nil|apply Lend.keep|fail));done)))|(apply Cl.p (h5);(focus ((repeat' (first|exact Lend.nil|apply Lend.keep|fail));done))))
  all_goals exact Fin.p rfl rfl
 have hH : HeadB m b := ⟨c1, ⟨c2, c3⟩, decide_eq_decide.1 c4, by omega, c6, c7⟩
 refine CallA.of pg ord119 Tryz.func119 rfl Tryz.ntmps119 Tryz.results119 rfl fun h0 G0 O0 => ?_
 repeat' (first|refine Sp.h ?_|refine Lk.r rfl ?_|refine Rf.mk rfl ?_|(apply Bd.t;(focus first|assumption|omega|rfl))|(apply Bd.f;(focus first|assumption|omega|exact Bool.false_ne_true))|refine OpK.r rfl ?_|(refine Im.mk ?_;intro _)|(refine All.mk ?_;intro _)|(apply TkB.r;(focus repeat constructor))|refine Ch.l ⟨rfl, rfl⟩ ?_|(apply CA.draw;(focus rfl);(focus kernel_rfl);(focus kernel_rfl);(focus repeat' constructor);(focus rfl))|(apply Cl.p (h1);(focus ((repeat' (first|exact Lend.nil|apply Lend.keep|fail));done)))|(apply Cl.p (h2);(focus ((repeat' (first|exact Lend.nil|apply Lend.keep|fail));done)))|(apply Cl.p (h3);(focus ((repeat' (first|exact Lend.nil|apply Lend.keep|fail));done)))|(apply Cl.p (h4);(focus ((repeat' (first|exact Lend.nil|apply Lend.keep|fail));done)))|(apply Cl.p (h5);(focus ((repeat' (first|exact Lend.nil|apply Lend.keep|fail));done))))
 rename_i b2 b3 _ _
 refine CA.loop (fun i : Nat => ⟨[(3, pm b3), (57, mgs b.merged), (58, it (b.merged.length : Nat)), (59, it i)], [blkR b3 75 (basR b r s)]⟩) (fun i => i ≤ b.merged.length ∧ ∀ g ∈ b.merged.take i, ∀ x ∈ g.marks, HasC b.clock x.rep x.num ∧ x.time ≤ b.time) (fun i => b.merged.length - i) 0 ⟨by repeat first|trivial|refine ⟨rfl,?_⟩,by repeat first|exact .nil|refine .cons (by repeat constructor) ?_⟩ ⟨Nat.zero_le _, by simp⟩ ?_
 rintro i ⟨hi, hm1⟩
 by_cases hin : i < b.merged.length
 rotate_left
 ·have hie : i = b.merged.length := by omega
  subst hie
  rw [List.take_length] at hm1
  repeat' (first|refine Sp.h ?_|refine Lk.r rfl ?_|refine Rf.mk rfl ?_|(apply Bd.f;(focus first|assumption|omega|exact Bool.false_ne_true))|(refine Im.mk ?_;intro _)|(apply TkB.r;(focus repeat constructor))|fail)
  refine CA.loop (fun j : Nat => ⟨[(3, pm b3), (89, ints b.places), (90, it (b.places.length : Nat)), (91, it j)], [blkR b3 75 (basR b r s)]⟩) (fun j => j ≤ b.places.length ∧ ∀ (i : Nat) p, i < j → b.places[i]? = some p → 1 ≤ p ∧ p ≤ 1024 ∧ ∀ q, 0 < i → b.places[i - 1]? = some q → q < p) (fun j => b.places.length - j) 0 ⟨by repeat first|trivial|refine ⟨rfl,?_⟩,by repeat first|exact .nil|refine .cons (by repeat constructor) ?_⟩ ⟨Nat.zero_le _, fun i p h9 => by omega⟩ ?_
  rintro j ⟨hj, hpp⟩
  by_cases hjn : j < b.places.length
  rotate_left
  ·have hje : j = b.places.length := by omega
   subst hje
   have hR : RightB m b := ⟨hH, hm1, fun i p hp => hpp i p (List.getElem?_eq_some_iff.1 hp).1 hp⟩
   rw [decide_eq_true hR]
   repeat' (first|refine Sp.h ?_|refine Lk.r rfl ?_|refine Rf.mk rfl ?_|(apply Bd.f;(focus first|assumption|omega|exact Bool.false_ne_true))|(apply Nm.r;focus repeat constructor)|fail)
   exact Fin.p rfl rfl
  obtain ⟨p, hp⟩ := get_of hjn
  by_cases d1 : p < 1
  ·have hn : ¬ RightB m b := fun h => by have := (h.pl j p hp).1;omega
   rw [decide_eq_false hn]
   repeat' (first|refine Sp.h ?_|refine Lk.r rfl ?_|refine Rf.mk rfl ?_|(apply Bd.t;(focus first|assumption|omega|rfl))|(apply Ix.q;(focus exact rfl);(focus assumption))|(apply Nm.r;focus repeat constructor)|fail)
   all_goals exact Fin.p rfl rfl
  by_cases d2 : 1024 < p
  ·have hn : ¬ RightB m b := fun h => by have := (h.pl j p hp).2.1;omega
   rw [decide_eq_false hn]
   repeat' (first|refine Sp.h ?_|refine Lk.r rfl ?_|refine Rf.mk rfl ?_|(apply Bd.t;(focus first|assumption|omega|rfl))|(apply Bd.f;(focus first|assumption|omega|exact Bool.false_ne_true))|(apply Ix.q;(focus exact rfl);(focus assumption))|(apply Nm.r;focus repeat constructor)|fail)
   all_goals exact Fin.p rfl rfl
  have step : (∀ q, 0 < j → b.places[j - 1]? = some q → q < p) → ∀ (i : Nat) p, i < j + 1 → b.places[i]? = some p → 1 ≤ p ∧ p ≤ 1024 ∧ ∀ q, 0 < i → b.places[i - 1]? = some q → q < p := fun h9 i p' hi' hp' => by
   by_cases hie : i = j
   ·subst hie
    rw [hp] at hp';cases hp'
    exact ⟨by omega, by omega, h9⟩
   ·exact hpp i p' (by omega) hp'
  cases j with
  | zero =>
   repeat' (first|refine Sp.h ?_|refine Lk.r rfl ?_|refine Rf.mk rfl ?_|(apply Bd.t;(focus first|assumption|omega|rfl))|(apply Bd.f;(focus first|assumption|omega|exact Bool.false_ne_true))|(apply Ix.q;(focus exact rfl);(focus assumption))|(apply Ov.n;(focus first|omega|(simp <;> omega)))|fail)
   all_goals exact PA.lp 1 ⟨by repeat first|trivial|refine ⟨rfl,?_⟩,by repeat first|exact .nil|refine .cons (by repeat constructor) ?_⟩ ⟨⟨hjn, step fun q h9 => by omega⟩, by omega⟩
  | succ j =>
   obtain ⟨q, hq⟩ := get_of (l := b.places) (i := j) (by omega)
   have e1 : ((j + 1 : Nat) : Int) - 1 = (j : Nat) := by omega
   by_cases d3 : q < p
   ·have d3' : ¬ p ≤ q := by omega
    repeat' (first|refine Sp.h ?_|refine Lk.r rfl ?_|refine Rf.mk rfl ?_|(apply Bd.t;(focus first|assumption|omega|rfl))|(apply Bd.f;(focus first|assumption|omega|exact Bool.false_ne_true))|(apply TkB.r;(focus repeat constructor))|(apply Ix.q;(focus exact rfl);(focus assumption))|(apply Ix.r;(focus assumption);(focus omega))|(apply Ov.n;(focus first|omega|(simp <;> omega)))|fail)
    all_goals exact PA.lp (j + 1 + 1) ⟨by repeat first|trivial|refine ⟨rfl,?_⟩,by repeat first|exact .nil|refine .cons (by repeat constructor) ?_⟩ ⟨⟨hjn, step fun q' _ hq' => by
     have hq' : b.places[j]? = some q' := hq'
     rw [hq] at hq';cases hq';exact d3⟩, by omega⟩
   ·have d3' : p ≤ q := by omega
    have hn : ¬ RightB m b := fun h => by have := (h.pl (j + 1) p hp).2.2 q (by omega) hq;omega
    rw [decide_eq_false hn]
    repeat' (first|refine Sp.h ?_|refine Lk.r rfl ?_|refine Rf.mk rfl ?_|(apply Bd.t;(focus first|assumption|omega|rfl))|(apply Bd.f;(focus first|assumption|omega|exact Bool.false_ne_true))|(apply TkB.r;(focus repeat constructor))|(apply Ix.q;(focus exact rfl);(focus assumption))|(apply Ix.r;(focus assumption);(focus omega))|(apply Nm.r;focus repeat constructor)|(apply Ov.n;(focus first|omega|(simp <;> omega)))|fail)
    all_goals exact Fin.p rfl rfl
 obtain ⟨g, hg⟩ := get_of hin
 have hgm := List.mem_of_getElem? hg
 repeat' (first|refine Sp.h ?_|refine Lk.r rfl ?_|refine Rf.mk rfl ?_|(apply Bd.t;(focus first|assumption|omega|rfl))|(refine Im.mk ?_;intro _)|(refine All.mk ?_;intro _)|(apply TkB.r;(focus repeat constructor))|(apply Ix.q;(focus exact rfl);(focus assumption))|refine Ch.l ⟨rfl, rfl⟩ ?_|(apply SetAsk.r;(focus (repeat (first|exact SetAs.z|(apply SetAs.c;(focus (repeat first|assumption|constructor)))))))|(apply Nm.r;focus repeat constructor)|fail)
 refine CA.loop (fun k : Nat => ⟨[(3, pm b3), (57, mgs b.merged), (58, it (b.merged.length : Nat)), (59, it i), (64, mks g.marks), (65, it (g.marks.length : Nat)), (66, it k)], [blkR b3 75 (basR b r s)]⟩) (fun k => k ≤ g.marks.length ∧ ∀ x ∈ g.marks.take k, HasC b.clock x.rep x.num ∧ x.time ≤ b.time) (fun k => g.marks.length - k) 0 ⟨by repeat first|trivial|refine ⟨rfl,?_⟩,by repeat first|exact .nil|refine .cons (by repeat constructor) ?_⟩ ⟨Nat.zero_le _, by simp⟩ ?_
 rintro k ⟨hk, hmk⟩
 by_cases hkn : k < g.marks.length
 rotate_left
 ·have hke : k = g.marks.length := by omega
  subst hke
  rw [List.take_length] at hmk
  repeat' (first|refine Sp.h ?_|refine Lk.r rfl ?_|refine Rf.mk rfl ?_|(apply Bd.f;(focus first|assumption|omega|exact Bool.false_ne_true))|(apply Ov.n;(focus first|omega|(simp <;> omega)))|fail)
  all_goals exact PA.lp (i + 1) ⟨by repeat first|trivial|refine ⟨rfl,?_⟩,by repeat first|exact .nil|refine .cons (by repeat constructor) ?_⟩ ⟨⟨hin, fun g' hg' => by
   rw [List.take_add_one, hg] at hg'
   rcases List.mem_append.1 hg' with hg' | hg'
   ·exact hm1 g' hg'
   ·rw [List.mem_singleton.1 hg'];exact hmk⟩, by omega⟩
 obtain ⟨x, hx⟩ := get_of hkn
 have hha := hasC_p b.clock x.rep x.num
 by_cases d1 : b.time < x.time
 ·have hn : ¬ RightB m b := fun h => by have := (h.mrk g hgm x (List.mem_of_getElem? hx)).2;omega
  rw [decide_eq_false hn]
  repeat' (first|refine Sp.h ?_|refine Lk.r rfl ?_|refine Rf.mk rfl ?_|(apply Bd.t;(focus first|assumption|omega|rfl))|(apply Bd.f;(focus first|assumption|omega|exact Bool.false_ne_true))|(refine Bd.mk ?_ ?_ <;> intro _)|(refine All.mk ?_;intro _)|(apply TkB.r;(focus repeat constructor))|(apply Ix.q;(focus exact rfl);(focus assumption))|refine Ch.l ⟨rfl, rfl⟩ ?_|(apply SetAsk.r;(focus (repeat (first|exact SetAs.z|(apply SetAs.c;(focus (repeat first|assumption|constructor)))))))|(apply Fk.r;(focus (repeat (first|exact FillA.nil|(apply FillA.agg;(focus rfl);(focus rfl);(focus (repeat (first|exact SetAs.z|(apply SetAs.c;(focus (repeat first|assumption|constructor)))))))|(apply FillA.one;(focus rfl);(focus infer_instance);(focus (repeat first|assumption|constructor)))))))|(apply Nm.r;focus repeat constructor)|(apply Cl.p (hha);(focus ((repeat' (first|exact Lend.nil|apply Lend.keep|fail));done))))
  all_goals exact Fin.p rfl rfl
 by_cases d2 : HasC b.clock x.rep x.num
 rotate_left
 ·have hn : ¬ RightB m b := fun h => d2 (h.mrk g hgm x (List.mem_of_getElem? hx)).1
  rw [decide_eq_false hn]
  rw [decide_eq_false d2] at hha
  repeat' (first|refine Sp.h ?_|refine Lk.r rfl ?_|refine Rf.mk rfl ?_|(apply Bd.t;(focus first|assumption|omega|rfl))|(apply Bd.f;(focus first|assumption|omega|exact Bool.false_ne_true))|(refine All.mk ?_;intro _)|(apply TkB.r;(focus repeat constructor))|(apply Ix.q;(focus exact rfl);(focus assumption))|refine Ch.l ⟨rfl, rfl⟩ ?_|(apply SetAsk.r;(focus (repeat (first|exact SetAs.z|(apply SetAs.c;(focus (repeat first|assumption|constructor)))))))|(apply Fk.r;(focus (repeat (first|exact FillA.nil|(apply FillA.agg;(focus rfl);(focus rfl);(focus (repeat (first|exact SetAs.z|(apply SetAs.c;(focus (repeat first|assumption|constructor)))))))|(apply FillA.one;(focus rfl);(focus infer_instance);(focus (repeat first|assumption|constructor)))))))|(apply Nm.r;focus repeat constructor)|(apply Cl.p (hha);(focus ((repeat' (first|exact Lend.nil|apply Lend.keep|fail));done))))
  all_goals exact Fin.p rfl rfl
 rw [decide_eq_true d2] at hha
 repeat' (first|refine Sp.h ?_|refine Lk.r rfl ?_|refine Rf.mk rfl ?_|(apply Bd.t;(focus first|assumption|omega|rfl))|(apply Bd.f;(focus first|assumption|omega|exact Bool.false_ne_true))|(refine All.mk ?_;intro _)|(apply TkB.r;(focus repeat constructor))|(apply Ix.q;(focus exact rfl);(focus assumption))|refine Ch.l ⟨rfl, rfl⟩ ?_|(apply SetAsk.r;(focus (repeat (first|exact SetAs.z|(apply SetAs.c;(focus (repeat first|assumption|constructor)))))))|(apply Fk.r;(focus (repeat (first|exact FillA.nil|(apply FillA.agg;(focus rfl);(focus rfl);(focus (repeat (first|exact SetAs.z|(apply SetAs.c;(focus (repeat first|assumption|constructor)))))))|(apply FillA.one;(focus rfl);(focus infer_instance);(focus (repeat first|assumption|constructor)))))))|(apply Nm.r;focus repeat constructor)|(apply Ov.n;(focus first|omega|(simp <;> omega)))|(apply Cl.p (hha);(focus ((repeat' (first|exact Lend.nil|apply Lend.keep|fail));done))))
 all_goals exact PA.lp (k + 1) ⟨by repeat first|trivial|refine ⟨rfl,?_⟩,by repeat first|exact .nil|refine .cons (by repeat constructor) ?_⟩ ⟨⟨hkn, fun y hy => by
  rw [List.take_add_one, hx] at hy
  rcases List.mem_append.1 hy with hy|hy
  ·exact hmk y hy
  ·rw [List.mem_singleton.1 hy];exact ⟨d2, by omega⟩⟩, by omega⟩
end Go.Proofs.YtmllihbhphnolaaGreat
namespace Go.Proofs.YtmllihbhphnolaaGreat
open Go Go.CF
set_option maxRecDepth 20000
theorem right_sz {m : ModS} {b : NowS} (hm : MOK m) (h : RightB m b) (hp : b.places.length ≤ 100000) : SzN b := by
 have h1 := h.hd.clk.2
 have h2 := h.hd.st
 have h3 := hm.str
 have h4 := h.hd.mg
 have h5 := hm.mrg
 refine ⟨by omega, by omega, by have := h4.1;omega, fun g hg => ?_, hp⟩
 obtain ⟨i, hi⟩ := List.getElem?_of_mem hg
 obtain ⟨t, ht⟩ := get_of (l := mrgF m) (i := i) (by have := h4.1;have := (List.getElem?_eq_some_iff.1 hi).1;omega)
 have := (h4.2 i t g ht hi).1.2.2.2
 omega
theorem openS_bad (m : ModS) (b : NowS) (r s : AV) (hm : MOK m) (h : ¬ RightB m b) : CallP Tryz.prog 54 [mdl m, .agg (basR b r s)] (.tup [.val (.pointer none), it 1]) := by
 have h1 := rightB_p m b r s hm
 rw [decide_eq_false h] at h1
 refine CallA.of pg ord54 Tryz.func54 rfl Tryz.ntmps54 Tryz.results54 rfl fun h0 G0 O0 => ?_
 repeat' (first|refine Sp.h ?_|refine Lk.r rfl ?_|refine Rf.mk rfl ?_|(apply Bd.f;(focus first|assumption|omega|exact Bool.false_ne_true))|(refine All.mk ?_;intro _)|(apply TkB.r;(focus repeat constructor))|refine Ch.l ⟨rfl, rfl⟩ ?_|(apply Nm.r;focus repeat constructor)|(apply Cl.p (h1);(focus repeat' (first|exact Lend.nil|apply Lend.keep|fail))))
 all_goals exact Fin.p rfl rfl
theorem openS_a (m : ModS) (b : NowS) (r s : AV) (hm : MOK m) (h : RightB m b) (hp : b.places.length ≤ 100000) : CallA Tryz.prog 54 [mdl m, .agg (basR b r s)] [] fun q own => ∃ p v, q = .tup [pm p, it 0] ∧ own = [stoR p m b v b, arrR v 37 13 ([] : List EvS) evC] := by
 have h1 := rightB_p m b r s hm
 have h2 := open_a m b r s (right_sz hm h hp)
 rw [decide_eq_true h] at h1
 refine CallA.of pg ord54 Tryz.func54 rfl Tryz.ntmps54 Tryz.results54 rfl fun h0 G0 O0 => ?_
 repeat' (first|refine Sp.h ?_|refine Lk.r rfl ?_|refine Rf.mk rfl ?_|(apply Bd.t;(focus first|assumption|omega|rfl))|(refine All.mk ?_;intro _)|(apply TkB.r;(focus repeat constructor))|refine Ch.l ⟨rfl, rfl⟩ ?_|(apply Cl.p (h1);(focus repeat' (first|exact Lend.nil|apply Lend.keep|fail))))
 (apply Cl.use (h2);(focus repeat' (first|exact Lend.nil|apply Lend.keep|fail));(focus (repeat (first|exact Takes.nil|(apply Takes.cons;(focus repeat constructor)))));(focus rfl))
 rintro _ _ ⟨p, v, rfl, rfl⟩
 repeat' (first|refine Sp.h ?_|refine Lk.r rfl ?_|(apply Nm.r;focus repeat constructor)|fail)
 exact ⟨_, _, .tup (.same (.same (.nil (by (repeat first|exact .nil|refine .cons (by repeat constructor) ?_))))), p, v, rfl, rfl⟩
theorem openR_bad (m : ModS) (b : NowS) (r s : AV) (hm : MOK m) (h : ¬ RightB m b) : CallP Tryz.prog 55 [mdl m, .agg (basR b r s)] (.tup [.agg [nl0, it 0, nl0, nl0, nl0, nl0, nl0, nl0], it 1]) := by
 have h1 := validB_p m b r s hm
 rw [decide_eq_false h] at h1
 refine CallA.of pg ord55 Tryz.func55 rfl Tryz.ntmps55 Tryz.results55 rfl fun h0 G0 O0 => ?_
 repeat' (first|refine Sp.h ?_|refine Lk.r rfl ?_|refine Rf.mk rfl ?_|(apply Bd.f;(focus first|assumption|omega|exact Bool.false_ne_true))|(refine All.mk ?_;intro _)|(apply TkB.r;(focus repeat constructor))|refine Ch.l ⟨rfl, rfl⟩ ?_|(apply SetAsk.r;(focus (repeat (first|exact SetAs.z|(apply SetAs.c;(focus (repeat first|assumption|constructor)))))))|(apply Fk.r;(focus (repeat (first|exact FillA.nil|(apply FillA.agg;(focus rfl);(focus rfl);(focus (repeat (first|exact SetAs.z|(apply SetAs.c;(focus (repeat first|assumption|constructor)))))))|(apply FillA.one;(focus rfl);(focus infer_instance);(focus (repeat first|assumption|constructor)))))))|(apply Nm.r;focus repeat constructor)|(apply Cl.p (h1);(focus repeat' (first|exact Lend.nil|apply Lend.keep|fail))))
 all_goals exact Fin.p rfl rfl
theorem openR_p (m : ModS) (b : NowS) (r s : AV) (hm : MOK m) (h : RightB m b) : CallP Tryz.prog 55 [mdl m, .agg (basR b r s)] (.tup [.agg [ints b.clock, it b.time, ints b.state, mgs b.merged, nl0, nl0, ints b.places, nl0], it 0]) := by
 have h1 := validB_p m b r s hm
 rw [decide_eq_true h] at h1
 refine CallA.of pg ord55 Tryz.func55 rfl Tryz.ntmps55 Tryz.results55 rfl fun h0 G0 O0 => ?_
 repeat' (first|refine Sp.h ?_|refine Lk.r rfl ?_|refine Rf.mk rfl ?_|(apply Bd.t;(focus first|assumption|omega|rfl))|(refine All.mk ?_;intro _)|(apply TkB.r;(focus repeat constructor))|refine Ch.l ⟨rfl, rfl⟩ ?_|(apply SetAk.r;(focus (repeat first|assumption|constructor)))|(apply SetAsk.r;(focus (repeat (first|exact SetAs.z|(apply SetAs.c;(focus (repeat first|assumption|constructor)))))))|(apply Fk.r;(focus (repeat (first|exact FillA.nil|(apply FillA.agg;(focus rfl);(focus rfl);(focus (repeat (first|exact SetAs.z|(apply SetAs.c;(focus (repeat first|assumption|constructor)))))))|(apply FillA.one;(focus rfl);(focus infer_instance);(focus (repeat first|assumption|constructor)))))))|(apply Nm.r;focus repeat constructor)|(apply Cl.p (h1);(focus repeat' (first|exact Lend.nil|apply Lend.keep|fail))))
 all_goals exact Fin.p rfl rfl
end Go.Proofs.YtmllihbhphnolaaGreat
namespace Go.Proofs.YtmllihbhphnolaaGreat
open Go Go.CF
set_option maxRecDepth 20000
noncomputable instance (a b : List Int) : Decidable (Ins a b) := Classical.propDecidable _
noncomputable def afterF (b : NowS) (l : List EvS) (c : List Int) : Int × List EvS :=
 @ite _ (¬ (ValC c ∧ c.length = b.clock.length)) (Classical.propDecidable _) (1, []) (@ite _ (¬ Ins b.clock c) (Classical.propDecidable _) (7, []) (0, outL c l))
theorem afterF_1 {b : NowS} {l : List EvS} {c : List Int} (h : ¬ (ValC c ∧ c.length = b.clock.length)) : afterF b l c = (1, []) := by unfold afterF;rw [if_pos h]
theorem afterF_7 {b : NowS} {l : List EvS} {c : List Int} (h : ValC c ∧ c.length = b.clock.length) (h2 : ¬ Ins b.clock c) : afterF b l c = (7, []) := by unfold afterF;rw [if_neg (fun h9 => h9 h), if_pos h2]
theorem afterF_0 {b : NowS} {l : List EvS} {c : List Int} (h : ValC c ∧ c.length = b.clock.length) (h2 : Ins b.clock c) : afterF b l c = (0, outL c l) := by unfold afterF;rw [if_neg (fun h9 => h9 h), if_neg (fun h9 => h9 h2)]
theorem afterR_p (b : NowS) (l : List EvS) (c : List Int) (hl : l.length ≤ 100000) : CallP Tryz.prog 58 [.agg (rstC b l), ints c] (.tup [evs (afterF b l c).2, it (afterF b l c).1]) := by
 have h1 := validR_p c
 have h2 := insideR_p b.clock c
 by_cases c1 : ValC c
 rotate_left
 ·rw [afterF_1 (fun h => c1 h.1)]
  rw [decide_eq_false c1] at h1
  refine CallA.conv (a := .tup [nl0, it 1]) (.tup (.cons ALe.nil (.cons (ALe.refl _) .nil))) ?_
  refine CallA.of pg ord58 Tryz.func58 rfl Tryz.ntmps58 Tryz.results58 rfl fun h0 G0 O0 => ?_
  repeat' (first|refine Sp.h ?_|refine Lk.r rfl ?_|refine Rf.mk rfl ?_|(apply Bd.f;(focus first|assumption|omega|exact Bool.false_ne_true))|(refine All.mk ?_;intro _)|(apply Nm.r;focus repeat constructor)|(apply Cl.p (h1);(focus repeat' (first|exact Lend.nil|apply Lend.keep|fail)))|(apply Cl.p (h2);(focus repeat' (first|exact Lend.nil|apply Lend.keep|fail))))
  all_goals exact Fin.p rfl rfl
 rw [decide_eq_true c1] at h1
 by_cases c2 : c.length = b.clock.length
 rotate_left
 ·rw [afterF_1 (fun h => c2 h.2)]
  refine CallA.conv (a := .tup [nl0, it 1]) (.tup (.cons ALe.nil (.cons (ALe.refl _) .nil))) ?_
  refine CallA.of pg ord58 Tryz.func58 rfl Tryz.ntmps58 Tryz.results58 rfl fun h0 G0 O0 => ?_
  repeat' (first|refine Sp.h ?_|refine Lk.r rfl ?_|refine Rf.mk rfl ?_|(apply Bd.t;(focus first|assumption|omega|rfl))|(apply Bd.f;(focus first|assumption|omega|exact Bool.false_ne_true))|(refine Im.mk ?_;intro _)|(refine All.mk ?_;intro _)|(apply TkB.r;(focus repeat constructor))|(apply Nm.r;focus repeat constructor)|(apply Cl.p (h1);(focus repeat' (first|exact Lend.nil|apply Lend.keep|fail)))|(apply Cl.p (h2);(focus repeat' (first|exact Lend.nil|apply Lend.keep|fail))))
  all_goals exact Fin.p rfl rfl
 by_cases c3 : Ins b.clock c
 rotate_left
 ·rw [afterF_7 ⟨c1, c2⟩ c3]
  rw [decide_eq_false c3] at h2
  refine CallA.conv (a := .tup [nl0, it 7]) (.tup (.cons ALe.nil (.cons (ALe.refl _) .nil))) ?_
  refine CallA.of pg ord58 Tryz.func58 rfl Tryz.ntmps58 Tryz.results58 rfl fun h0 G0 O0 => ?_
  repeat' (first|refine Sp.h ?_|refine Lk.r rfl ?_|refine Rf.mk rfl ?_|(apply Bd.t;(focus first|assumption|omega|rfl))|(apply Bd.f;(focus first|assumption|omega|exact Bool.false_ne_true))|(refine Im.mk ?_;intro _)|(refine All.mk ?_;intro _)|(apply TkB.r;(focus repeat constructor))|(apply Nm.r;focus repeat constructor)|(apply Cl.p (h1);(focus repeat' (first|exact Lend.nil|apply Lend.keep|fail)))|(apply Cl.p (h2);(focus repeat' (first|exact Lend.nil|apply Lend.keep|fail))))
  all_goals exact Fin.p rfl rfl
 rw [afterF_0 ⟨c1, c2⟩ c3]
 rw [decide_eq_true c3] at h2
 refine CallA.fzt (T := 37) (Nat.le_trans (List.length_filter_le _ _) (by omega)) ?_
 refine CallA.of pg ord58 Tryz.func58 rfl Tryz.ntmps58 Tryz.results58 rfl fun h0 G0 O0 => ?_
 repeat' (first|refine Sp.h ?_|refine Lk.r rfl ?_|refine Rf.mk rfl ?_|(apply Bd.t;(focus first|assumption|omega|rfl))|(refine Im.mk ?_;intro _)|(refine All.mk ?_;intro _)|(apply TkB.r;(focus repeat constructor))|(apply Fk.r;(focus (repeat (first|exact FillA.nil|(apply FillA.agg;(focus rfl);(focus rfl);(focus (repeat (first|exact SetAs.z|(apply SetAs.c;(focus (repeat first|assumption|constructor)))))))|(apply FillA.one;(focus rfl);(focus infer_instance);(focus (repeat first|assumption|constructor)))))))|refine Rf.mk ⟨rfl, rfl, rfl⟩ ?_|(apply Cl.p (h1);(focus repeat' (first|exact Lend.nil|apply Lend.keep|fail)))|(apply Cl.p (h2);(focus repeat' (first|exact Lend.nil|apply Lend.keep|fail))))
 rename_i b2 _ _ v
 apply CA.retype (m := ([] : List EvS)) (g := evC)
 focus (repeat constructor)
 focus rfl
 refine CA.loop (fun x : Nat × Value => ⟨[(1, ints c), (2, pm b2), (6, .ow x.2), (7, it x.1)], [blkR b2 80 (rstC b l), arrR x.2 37 13 (outL c (l.take x.1)) evC]⟩) (fun x => x.1 ≤ l.length) (fun x => l.length - x.1) (0, v) ⟨by repeat first|trivial|refine ⟨rfl,?_⟩,by repeat first|exact .nil|refine .cons (by repeat constructor) ?_⟩ (Nat.zero_le _) ?_
 rintro ⟨i, w⟩ hi
 simp only at hi
 simp only
 by_cases hin : i < l.length
 rotate_left
 ·have hie : i = l.length := by omega
  subst hie
  rw [List.take_length]
  repeat' (first|refine Sp.h ?_|refine Lk.r rfl ?_|refine Rf.mk rfl ?_|(apply Bd.f;(focus first|assumption|omega|exact Bool.false_ne_true))|(refine Im.mk ?_;intro _)|(apply TkB.r;(focus repeat constructor))|(apply Nm.r;focus repeat constructor)|fail)
  exact ⟨_, _, .tup (.same (.same (.nil (by (repeat first|exact .nil|refine .cons (by repeat constructor) ?_))))), _, rfl, rfl⟩
 obtain ⟨e, he⟩ := get_of hin
 have hsu := outL_succ (c := c) he
 have hln : (outL c (l.take i)).length ≤ 100000 := Nat.le_trans (List.length_filter_le _ _) (by rw [List.length_take];omega)
 have hna := nameR_p e
 have hha := hasR_p c e.rep e.num
 by_cases hh : HasC c e.rep e.num
 ·rw [if_pos hh, List.append_nil] at hsu
  rw [decide_eq_true hh] at hha
  repeat' (first|refine Sp.h ?_|refine Lk.r rfl ?_|refine Rf.mk rfl ?_|(apply Bd.t;(focus first|assumption|omega|rfl))|(refine Im.mk ?_;intro _)|(apply TkB.r;(focus repeat constructor))|(apply Ix.q;(focus exact rfl);(focus assumption))|refine Ch.l ⟨rfl, rfl⟩ ?_|(apply Ov.n;(focus first|omega|(simp <;> omega)))|(apply Cl.p (hna);(focus repeat' (first|exact Lend.nil|apply Lend.keep|fail)))|(apply Cl.p (hha);(focus repeat' (first|exact Lend.nil|apply Lend.keep|fail))))
  rw [← hsu]
  all_goals exact PA.lp (i + 1, w) ⟨by repeat first|trivial|refine ⟨rfl,?_⟩,by repeat first|exact .nil|refine .cons (by repeat constructor) ?_⟩ ⟨hin, by simp only;omega⟩
 ·rw [if_neg hh] at hsu
  rw [decide_eq_false hh] at hha
  repeat' (first|refine Sp.h ?_|refine Lk.r rfl ?_|refine Rf.mk rfl ?_|(apply Bd.t;(focus first|assumption|omega|rfl))|(apply Bd.f;(focus first|assumption|omega|exact Bool.false_ne_true))|(apply Om.mk;(focus first|omega|(simp <;> omega)))|(refine Im.mk ?_;intro _)|(refine All.mk ?_;intro _)|(apply TkA.r;(focus repeat constructor))|(apply TkB.r;(focus repeat constructor))|(apply Ix.q;(focus exact rfl);(focus assumption))|refine Ce.r ?_|refine Ch.l ⟨rfl, rfl⟩ ?_|(apply Fk.r;(focus (repeat (first|exact FillA.nil|(apply FillA.agg;(focus rfl);(focus rfl);(focus (repeat (first|exact SetAs.z|(apply SetAs.c;(focus (repeat first|assumption|constructor)))))))|(apply FillA.one;(focus rfl);(focus infer_instance);(focus (repeat first|assumption|constructor)))))))|refine Rf.mk ⟨rfl, rfl⟩ ?_|refine Rf.mk ⟨rfl, rfl, rfl⟩ ?_|(apply Mp.lit;(focus repeat (first|exact MpL.nil|(apply MpL.cons;(focus rfl))|(apply MpL.inv;(focus repeat constructor);(focus infer_instance)))))|(apply Ov.n;(focus first|omega|(simp <;> omega)))|(apply Cl.p (hna);(focus repeat' (first|exact Lend.nil|apply Lend.keep|fail)))|(apply Cl.p (hha);(focus repeat' (first|exact Lend.nil|apply Lend.keep|fail))))
  rw [← hsu]
  all_goals exact PA.lp (i + 1, _) ⟨by repeat first|trivial|refine ⟨rfl,?_⟩,by repeat first|exact .nil|refine .cons (by repeat constructor) ?_⟩ ⟨hin, by simp only;omega⟩
end Go.Proofs.YtmllihbhphnolaaGreat
namespace Go.CF
open Go
def rawR {α : Type} (sz : Nat) (L : List (List Value)) (l : List α) (f : α → List AV) : Res :=
 ⟨fun h O G => (∀ b, ¬ O b) ∧ Rows h G sz L l f, fun x ⟨ho, r⟩ => ⟨ho, r.stp (x.mono fun _ => .inr)⟩, fun x ⟨ho, r⟩ => ⟨ho, r.mono x⟩⟩
section
variable {Γ : Cx} {k : List KI} {e : EA} {o : List Res}
theorem CA.toRows {α : Type} {y : Code} {v : Value} {T sz : Nat} {l : List α} {f : α → List AV} {rest : List Res} (tk : Take o (arrR v T sz l f) rest)
  (h : ∀ L : List (List Value), L.length = l.length → CA Γ k y e (arrR v T sz L valR :: rawR sz L l f :: rest)) : CA Γ k y e o := by
 refine ⟨fun env hh G Os cn => ?_⟩
 obtain ⟨O, Os', cn2⟩ := cn.take tk
 obtain ⟨⟨ho, rows, hw, hr⟩, hrest⟩ := cn2.hp.own
 have hv : RowsV sz rows := ⟨hr.sz, fun r hm u hu => by
  obtain ⟨j, hj⟩ := List.getElem?_of_mem hm
  obtain ⟨x, hx⟩ : ∃ x, l[j]? = some x := ⟨_, List.getElem?_eq_getElem (by rw [← hr.len];exact (List.getElem?_eq_some_iff.1 hj).1)⟩
  exact (hr.row j r x hj hx).one u hu⟩
 have hp : HpOK Γ.h0 Γ.G0 Γ.O0 (arrR v T sz rows valR :: rawR sz rows l f :: rest) hh G (O :: (fun _ => False) :: Os') := by
  refine ⟨⟨⟨ho, rows, by rw [hr.len];exact hw, hv.rows hh G⟩, ⟨fun _ h => h, hr⟩, hrest⟩, cn2.hp.g, cn2.hp.g0, fun X hX b hb => ?_, ?_, cn2.hp.fp⟩
  ·rcases List.mem_cons.1 hX with rfl|hX
   ·exact cn2.hp.o X (by simp) b hb
   ·rcases List.mem_cons.1 hX with rfl|hX
    ·exact hb.elim
    ·exact cn2.hp.o X (by simp [hX]) b hb
  ·obtain ⟨d1, d2⟩ := List.pairwise_cons.1 cn2.hp.d
   refine List.pairwise_cons.2 ⟨fun B hB b hb hb2 => ?_, List.pairwise_cons.2 ⟨fun B hB b hb _ => hb, d2⟩⟩
   rcases List.mem_cons.1 hB with rfl|hB
   ·exact hb2
   ·exact d1 B hB b hb hb2
 exact (h rows hr.len).h env hh G _ ⟨hp, cn2.env, cn2.nf⟩
theorem CA.ofRows {α : Type} {y : Code} {v : Value} {T sz : Nat} {L L' : List (List Value)} {l : List α} {f : α → List AV} {rest rest2 : List Res} (tk : Take o (arrR v T sz L' valR) rest) (tk2 : Take rest (rawR sz L l f) rest2)
  (Z : List (List Value × α)) (hZ : ∀ z ∈ Z, ∃ i : Nat, L[i]? = some z.1 ∧ l[i]? = some z.2) (h1 : Z.map (·.1) = L') (h : CA Γ k y e (arrR v T sz (Z.map (·.2)) f :: rest2)) : CA Γ k y e o := by
 refine ⟨fun env hh G Os cn => ?_⟩
 obtain ⟨O, Os', cn2⟩ := cn.take tk
 obtain ⟨⟨ho, rows, hw, hr⟩, hrest⟩ := cn2.hp.own
 obtain ⟨X, Os2, r1, r2, r3⟩ := tk2.own hrest
 have e9 := rows_val hr
 subst e9
 have hlen : rows.length = Z.length := by rw [← h1, List.length_map]
 have hrow : Rows hh G sz rows (Z.map (·.2)) f := by
  refine ⟨by rw [hlen, List.length_map], fun i r x e1 e2 => ?_, hr.sz⟩
  rw [← h1, List.getElem?_map] at e1
  rw [List.getElem?_map] at e2
  cases hz : Z[i]? with
  | none => rw [hz] at e1;cases e1
  | some z =>
   rw [hz] at e1 e2
   cases e1;cases e2
   obtain ⟨q, q1, q2⟩ := hZ z (List.mem_of_getElem? hz)
   exact r1.2.row q _ _ q1 q2
 have c4 : HpOK Γ.h0 Γ.G0 Γ.O0 (arrR v T sz rows valR :: rawR sz L l f :: rest2) hh G (O :: X :: Os2) := cn2.hp.perm ⟨cn2.hp.own.1, r1, r2⟩ (List.Perm.cons _ r3)
 have c5 : HpOK Γ.h0 Γ.G0 Γ.O0 (rawR sz L l f :: arrR v T sz rows valR :: rest2) hh G (X :: O :: Os2) := c4.perm ⟨r1, cn2.hp.own.1, r2⟩ (List.Perm.swap _ _ _)
 have c6 := c5.drop
 exact h.h env hh G (O :: Os2) ⟨c6.perm ⟨⟨ho, rows, by rw [List.length_map, ← hlen];exact hw, hrow⟩, r2⟩ (List.Perm.refl _), cn2.env, cn2.nf⟩
end
end Go.CF
namespace Go.Proofs.YtmllihbhphnolaaGreat
open Go Go.CF
set_option maxRecDepth 20000
set_option maxHeartbeats 2000000 in
theorem deleteE_a {g : FuncId} {cap : AV} {p : EvS → Bool} (hg : ∀ x, CallP Tryz.prog g [evA' x, cap] (bl (p x))) (he : en g = true) (w : Value) (l : List EvS) (hl : l.length ≤ 1000000) :
  CallA Tryz.prog 46 [.ow w, .fn g [cap]] [eR w l] fun q own => ∃ w', q = .ow w' ∧ own = [eR w' (l.filter fun x => !p x)] := by
 have hix := indexF_p hg he l
 refine CallA.of pg ord46 Tryz.func46 rfl Tryz.ntmps46 Tryz.results46 rfl fun h0 G0 O0 => ?_
 repeat' (first|refine Sp.h ?_|refine Lk.r rfl ?_|refine Rf.mk rfl ?_|fail)
 (apply Cl.lend (hix);(focus repeat' (first|exact Lend.nil|apply Lend.keep|(apply Lend.lend;(focus repeat constructor);(focus first|omega|(simp;omega)))|fail)))
 by_cases hn : idxN p l < l.length
 ·have hI : idxI p l = (idxN p l : Nat) := if_pos hn
  rw [hI]
  repeat' (first|refine Sp.h ?_|refine Lk.r rfl ?_|refine Rf.mk rfl ?_|(apply Bd.f;(focus first|assumption|omega|exact Bool.false_ne_true))|(apply Ov.n;(focus first|omega|(simp <;> omega)))|fail)
  refine CA.loop (fun x : Nat × Nat × List EvS => ⟨[(0, .ow w), (1, .fn g [cap]), (5, it x.1), (6, it x.2.1)], [eR w x.2.2]⟩)
   (fun x => x.1 < x.2.1 ∧ x.2.1 ≤ l.length ∧ x.2.2.length = l.length ∧ x.2.2.take x.1 = (l.take x.2.1).filter (fun x => !p x) ∧ x.2.2.drop x.2.1 = l.drop x.2.1) (fun x => l.length - x.2.1) (idxN p l, idxN p l + 1, l) ⟨by repeat first|trivial|refine ⟨rfl,?_⟩,by repeat first|exact .nil|refine .cons (by repeat constructor) ?_⟩ ⟨Nat.lt_succ_self _, hn, rfl, (filt_idx hn).symm, rfl⟩ ?_
  rintro ⟨i, j, cur⟩ ⟨h1, h2, h3, h4, h5⟩
  simp only at h1 h2 h3 h4 h5
  simp only
  by_cases hj : j < l.length
  ·obtain ⟨x, hx⟩ := get_of hj
   have hcx : cur[j]? = some x := by
    have := congrArg (fun z => z[0]?) h5
    simpa [List.getElem?_drop, hx] using this
   obtain ⟨y, hy⟩ := get_of (l := cur) (i := i) (by omega)
   have h6 : cur.drop (j + 1) = l.drop (j + 1) := by rw [← List.drop_drop, h5, List.drop_drop]
   have h7 : l.take (j + 1) = l.take j ++ [x] := by rw [List.take_add_one, hx];rfl
   repeat' (first|refine Sp.h ?_|refine Lk.r rfl ?_|refine Rf.mk rfl ?_|(apply Bd.t;(focus first|assumption|omega|rfl))|(refine Bd.mk ?_ ?_ <;> intro _)|(refine All.mk ?_;intro _)|(apply TkA.r;(focus repeat constructor))|(apply TkB.r;(focus repeat constructor))|(apply Ix.q;(focus exact rfl);(focus assumption))|(apply At.r;(focus assumption))|refine Ch.l ⟨rfl, rfl⟩ ?_|(apply SetAsk.r;(focus (repeat (first|exact SetAs.z|(apply SetAs.c;(focus (repeat first|assumption|constructor)))))))|(apply Nm.r;focus repeat constructor)|refine Up.r rfl ?_|(apply Rf.mk;(focus assumption))|(apply Ov.n;(focus first|omega|(simp <;> omega)))|(apply Cl.p (hg x);(focus repeat' (first|exact Lend.nil|apply Lend.keep|fail))))
   ·rename_i hp
    exact PA.lp (i, j + 1, cur) ⟨by repeat first|trivial|refine ⟨rfl,?_⟩,by repeat first|exact .nil|refine .cons (by repeat constructor) ?_⟩ ⟨⟨by simp only;omega, hj, h3, by simp only;rw [h7, List.filter_append, h4];simp [hp], h6⟩, by simp only;omega⟩
   ·rename_i hp
    have hp : p x = false := by simpa using hp
    have h8 : (cur.set i x).take (i + 1) = cur.take i ++ [x] := by
     rw [List.take_add_one, List.getElem?_set, if_pos rfl, if_pos (by omega), List.take_set_of_le (Nat.le_refl _)];rfl
    exact PA.lp (i + 1, j + 1, cur.set i x) ⟨by repeat first|trivial|refine ⟨rfl,?_⟩,by repeat first|exact .nil|refine .cons (by repeat constructor) ?_⟩ ⟨⟨by simp only;omega, hj, by simp only;rw [List.length_set];exact h3, by simp only;rw [h7, List.filter_append, h8, h4];simp [hp], by simp only;rw [List.drop_set_of_lt (by omega)];exact h6⟩, by simp only;omega⟩
  ·have hje : j = l.length := by omega
   subst hje
   rw [List.take_length] at h4
   (repeat' (first|(show CA _ _ (Code.region 11 _ _) _ _;apply Stopped.out)|refine Sp.h ?_|refine Lk.r rfl ?_|refine Rf.mk rfl ?_|(apply Bd.f;(focus first|assumption|omega|exact Bool.false_ne_true))|(apply TkA.r;(focus repeat constructor))|fail));any_goals apply Stopped.mk
   apply CA.toRows
   focus (repeat constructor)
   intro L hL
   apply CA.toX 0
   focus rfl
   focus (repeat constructor)
   intro hcap
   rw [h3] at hL
   (repeat' (first|(show CA _ _ Code.ret _ _;apply Stopped.out)|refine Sp.h ?_|refine Lk.r rfl ?_|refine Rf.mk rfl ?_|(apply Om.mk;(focus first|omega|(simp <;> omega)))|refine Rf.mk ⟨rfl, rfl⟩ ?_|refine Rf.mk ⟨rfl, rfl, rfl⟩ ?_|(apply Jx.r;(focus exact rfl);(focus first|omega|(simp;done)|(simp;omega)))|(apply TkX.r;(focus repeat constructor))|(apply ExX.short;(focus rfl);(focus first|omega|(simp <;> omega));(focus first|omega|(simp <;> omega)))|fail));any_goals apply Stopped.mk
   apply CA.ofRows (Z := (L.zip cur).take i)
   focus (repeat constructor)
   focus (repeat constructor)
   focus (intro z hz;obtain ⟨q, hq⟩ := List.getElem?_of_mem (List.mem_of_mem_take hz);exact ⟨q, (List.getElem?_zip_eq_some (z := z)).1 hq⟩)
   focus (rw [List.map_take, List.map_fst_zip (by omega)];simp [List.take_take])
   rw [List.map_take, List.map_snd_zip (by omega), h4]
   repeat' (first|refine Sp.h ?_|refine Lk.r rfl ?_|(apply Nm.r;focus repeat constructor)|fail)
   exact ⟨_, _, .one (.same (.nil (by (repeat first|exact .nil|refine .cons (by repeat constructor) ?_)))), _, rfl, rfl⟩
 ·have hI : idxI p l = -1 := if_neg hn
  have hall : l.filter (fun x => !p x) = l := List.filter_eq_self.2 fun x hx => by
   have h9 : ¬ ∃ x ∈ l, p x = true := fun h => hn (idxN_lt.2 h)
   cases hpx : p x
   ·rfl
   ·exact absurd ⟨x, hx, hpx⟩ h9
  rw [hI, hall]
  repeat' (first|refine Sp.h ?_|refine Lk.r rfl ?_|refine Rf.mk rfl ?_|(apply Bd.t;(focus first|assumption|omega|rfl))|(apply Nm.r;focus repeat constructor)|fail)
  exact ⟨_, _, .one (.same (.nil (by (repeat first|exact .nil|refine .cons (by repeat constructor) ?_)))), _, rfl, rfl⟩
end Go.Proofs.YtmllihbhphnolaaGreat
namespace Go.Proofs.YtmllihbhphnolaaGreat
open Go Go.CF
set_option maxRecDepth 20000
theorem fits_z (m : ModS) (b w : NowS) (l : List EvS) (c : List Int) : CallP Tryz.prog 125 [.ad (stoV m b l w) 0, ints c] (bl (decide (ValC c ∧ c.length = w.clock.length))) := by
 have h := validC_p c
 by_cases h1 : ValC c
 ·rw [decide_eq_true h1] at h
  refine CallA.of pg ord125 Tryz.func125 rfl Tryz.ntmps125 Tryz.results125 rfl fun h0 G0 O0 => ?_
  repeat' (first|refine Sp.h ?_|refine Lk.r rfl ?_|refine Rf.mk rfl ?_|(refine Im.mk ?_;intro _)|(apply Nm.r;focus repeat constructor)|(apply Cl.p (h);(focus repeat' (first|exact Lend.nil|apply Lend.keep|fail))))
  all_goals exact Fin.p rfl (vb (decide_eq_decide.2 ⟨fun h9 => ⟨h1, by omega⟩, fun h9 => by have := h9.2;omega⟩))
 ·rw [decide_eq_false h1] at h
  refine CallA.of pg ord125 Tryz.func125 rfl Tryz.ntmps125 Tryz.results125 rfl fun h0 G0 O0 => ?_
  repeat' (first|refine Sp.h ?_|refine Lk.r rfl ?_|refine Rf.mk rfl ?_|(apply Nm.r;focus repeat constructor)|(apply Cl.p (h);(focus repeat' (first|exact Lend.nil|apply Lend.keep|fail))))
  all_goals exact Fin.p rfl (vb (decide_eq_false fun h9 => h1 h9.1).symm)
theorem after1_p (c : List Int) (x : EvS) : CallP Tryz.prog 127 [evA' x, .ad [ints c] 0] (bl (decide (HasC c x.rep x.num))) := by
 have h1 := name35_p x
 have h2 := hasC_p c x.rep x.num
 refine CallA.of pg ord127 Tryz.func127 rfl Tryz.ntmps127 Tryz.results127 rfl fun h0 G0 O0 => ?_
 repeat' (first|refine Sp.h ?_|refine Lk.r rfl ?_|refine Rf.mk rfl ?_|refine OpK.r rfl ?_|(refine All.mk ?_;intro _)|(apply TkB.r;(focus repeat constructor))|refine Ch.l ⟨rfl, rfl⟩ ?_|(apply Nm.r;focus repeat constructor)|(apply CA.draw;(focus rfl);(focus kernel_rfl);(focus kernel_rfl);(focus repeat' constructor);(focus rfl))|(apply Cl.p (h1);(focus ((repeat' (first|exact Lend.nil|apply Lend.keep|fail));done)))|(apply Cl.p (h2);(focus ((repeat' (first|exact Lend.nil|apply Lend.keep|fail));done))))
 all_goals exact Fin.p rfl rfl
theorem safter_z (m : ModS) (b w : NowS) (l : List EvS) (c : List Int) (hw : w.clock.length = b.clock.length) (hbv : ValC b.clock) (hl : l.length ≤ 100000) (hm : ∀ e ∈ l, e.past.length ≤ 1000000) : CallP Tryz.prog 57 [.ad (stoV m b l w) 0, ints c] (.tup [evs (afterF b l c).2, it (afterF b l c).1]) := by
 have hfi := fits_z m b w l c
 by_cases c1 : ValC c ∧ c.length = b.clock.length
 rotate_left
 ·rw [afterF_1 c1]
  rw [decide_eq_false (by rw [hw];exact c1)] at hfi
  refine CallA.conv (a := .tup [nl0, it 1]) (.tup (.cons ALe.nil (.cons (ALe.refl _) .nil))) ?_
  refine CallA.of pg ord57 Tryz.func57 rfl Tryz.ntmps57 Tryz.results57 rfl fun h0 G0 O0 => ?_
  repeat' (first|refine Sp.h ?_|refine Lk.r rfl ?_|refine Rf.mk rfl ?_|(apply Bd.f;(focus first|assumption|omega|exact Bool.false_ne_true))|(refine All.mk ?_;intro _)|(apply TkB.r;(focus repeat constructor))|(apply Nm.r;focus repeat constructor)|(apply Cl.p (hfi);(focus repeat' (first|exact Lend.nil|apply Lend.keep|fail))))
  all_goals exact Fin.p rfl rfl
 rw [decide_eq_true (by rw [hw];exact c1)] at hfi
 have hmi := missing_o c b.clock
 have hal : AlikeC [c, b.clock] := (alike2 _ _).2 ⟨c1.1, hbv, c1.2⟩
 by_cases c3 : Ins b.clock c
 rotate_left
 ·rw [afterF_7 c1 c3]
  refine CallA.conv (a := .tup [nl0, it 7]) (.tup (.cons ALe.nil (.cons (ALe.refl _) .nil))) ?_
  refine CallA.of pg ord57 Tryz.func57 rfl Tryz.ntmps57 Tryz.results57 rfl fun h0 G0 O0 => ?_
  repeat' (first|refine Sp.h ?_|refine Lk.r rfl ?_|refine Rf.mk rfl ?_|(apply Bd.t;(focus first|assumption|omega|rfl))|refine OpK.r rfl ?_|(refine All.mk ?_;intro _)|(apply TkB.r;(focus repeat constructor))|(apply CA.draw;(focus rfl);(focus kernel_rfl);(focus kernel_rfl);(focus repeat' constructor);(focus rfl))|(apply Cl.p (hfi);(focus repeat' (first|exact Lend.nil|apply Lend.keep|fail))))
  (apply Cl.use (hmi);(focus repeat' (first|exact Lend.nil|apply Lend.keep|fail));(focus (repeat (first|exact Takes.nil|(apply Takes.cons;(focus repeat constructor)))));(focus rfl))
  rintro _ _ ⟨vm, lm, rfl, rfl, hlm, hl5⟩
  have hl0 : 0 < lm.length := by
   rcases Nat.eq_zero_or_pos lm.length with h9|h9
   ·exact absurd (hlm.1 (List.eq_nil_of_length_eq_zero h9) hal) c3
   ·exact h9
  repeat' (first|refine Sp.h ?_|refine Lk.r rfl ?_|refine Rf.mk rfl ?_|(apply Bd.t;(focus first|assumption|omega|rfl))|refine OpK.r rfl ?_|(apply TkA.r;(focus repeat constructor))|(apply Nm.r;focus repeat constructor)|fail)
  all_goals exact Fin.p rfl rfl
 rw [afterF_0 c1 c3]
 have hcl := cloneV_o l (by omega)
 have hol : (outL c l).length ≤ l.length := List.length_filter_le _ _
 have hce := cloneEs_p (outL c l) (by omega) (fun e he => hm e (List.mem_filter.1 he).1)
 have hfe : (l.filter fun x => !decide (HasC c x.rep x.num)) = outL c l := List.filter_congr fun e _ => by simp
 refine CallA.of pg ord57 Tryz.func57 rfl Tryz.ntmps57 Tryz.results57 rfl fun h0 G0 O0 => ?_
 repeat' (first|refine Sp.h ?_|refine Lk.r rfl ?_|refine Rf.mk rfl ?_|(apply Bd.t;(focus first|assumption|omega|rfl))|refine OpK.r rfl ?_|(refine All.mk ?_;intro _)|(apply TkB.r;(focus repeat constructor))|(apply CA.draw;(focus rfl);(focus kernel_rfl);(focus kernel_rfl);(focus repeat' constructor);(focus rfl))|(apply Cl.p (hfi);(focus repeat' (first|exact Lend.nil|apply Lend.keep|fail))))
 (apply Cl.use (hmi);(focus repeat' (first|exact Lend.nil|apply Lend.keep|fail));(focus (repeat (first|exact Takes.nil|(apply Takes.cons;(focus repeat constructor)))));(focus rfl))
 rintro _ _ ⟨vm, lm, rfl, rfl, hlm, hl5⟩
 have hl0 : lm = [] := hlm.2 fun _ => c3
 have hz : ¬ ((0 : Int) < (lm.length : Nat)) := by rw [hl0];simp
 (repeat' (first|(show CA _ _ (Code.region 5 _ _) _ _;apply Stopped.out)|refine Sp.h ?_|refine Lk.r rfl ?_|(apply Bd.f;(focus first|assumption|omega|exact Bool.false_ne_true))|refine OpK.r rfl ?_|(apply TkA.r;(focus repeat constructor))|fail));any_goals apply Stopped.mk
 apply CA.freezeB 3
 focus rfl
 focus (repeat constructor)
 repeat' (first|refine Sp.h ?_|refine Lk.r rfl ?_|refine Rf.mk rfl ?_|fail)
 (refine Cl.use (hcl) (by repeat' (first|exact Lend.nil|apply Lend.keep|fail)) .nil rfl ?_;rintro _ _ ⟨_, rfl, rfl⟩)
 rename_i u
 have hde := deleteE_a (after1_p c) rfl u l (by omega)
 rw [hfe] at hde
 repeat' (first|refine Sp.h ?_|refine Lk.r rfl ?_|refine Rf.mk rfl ?_|fail)
 (apply Cl.use (hde);(focus repeat' (first|exact Lend.nil|apply Lend.keep|fail));(focus (repeat (first|exact Takes.nil|(apply Takes.cons;(focus repeat constructor)))));(focus rfl))
 rintro _ _ ⟨w', rfl, rfl⟩
 repeat' (first|refine Sp.h ?_|refine Lk.r rfl ?_|refine Rf.mk rfl ?_|fail)
 (apply Cl.fz;(focus repeat' (first|exact FZ.nil|(apply FZ.fz;(focus repeat constructor);(focus first|omega|decide|exact Nat.le_of_ble_eq_true rfl|(simp <;> omega)))|apply FZ.agg|apply FZ.same)))
 (apply Cl.p (hce);(focus repeat' (first|exact Lend.nil|apply Lend.keep|fail)))
 repeat' (first|refine Sp.h ?_|refine Lk.r rfl ?_|(apply Nm.r;focus repeat constructor)|fail)
 all_goals exact Fin.p rfl rfl
end Go.Proofs.YtmllihbhphnolaaGreat
namespace Go.Proofs.YtmllihbhphnolaaGreat
open Go Go.CF
set_option maxRecDepth 20000
set_option maxHeartbeats 8000000 in
theorem shows35_p (m : ModS) (n : Nat) (b : NowS) (l : List EvS) (w : NowS) (hm : MOK m) (h : RefB m n b) (hl : ∀ x ∈ l, EvV m (n : Nat) x) (hp : b.places.length + l.length ≤ 10000) (hw : w = l.foldl (behF m) b) (hsz : SzN b) (hnw : NowOK m w) :
  CallP Tryz.prog 59 [mdl m, .ad (stoV m b l w) 0, .agg (rstC b l)] (bl true) := by
 have a1 := all35_p m n b l hm h hl hp
 rw [← hw] at a1
 have a2 := valuesQ34_p m w.merged hm
 have hck := hnw.clk.2
 have hstr := hm.str
 have s1 := sclock_z m b w l (by omega)
 have s2 := stime_r m b w l
 have s3 := sstate_z m b w l (by rw [hnw.st];omega)
 have s4 := svalues_r m b w l hm
 have s5 := splaces_z m b w l hnw.pll
 have s6 := sevents_z m b w l (by omega) (fun e he => by have := (hl e he).1.1.2;omega)
 have s7 := sbase_r m b w l hsz
 have q1 := equal_p w.clock w.clock
 have q2 := equal_p w.state w.state
 have q3 := listsQ_p (valuesQ m w.merged).2 (valuesQ m w.merged).2
 have q4 := equal_p w.places w.places
 have q5 := same32_p l l
 have q6 := same35_p b
 rw [decide_eq_true rfl] at q1 q2 q3 q4 q5
 refine CallA.of pg ord59 Tryz.func59 rfl Tryz.ntmps59 Tryz.results59 rfl fun h0 G0 O0 => ?_
 repeat' (first|refine Sp.h ?_|refine Lk.r rfl ?_|refine Rf.mk rfl ?_|(apply Bd.t;(focus first|assumption|omega|rfl))|(apply Bd.f;(focus first|assumption|omega|exact Bool.false_ne_true))|(refine Bd.mk ?_ ?_ <;> intro _)|refine OpK.r rfl ?_|(apply Om.mk;(focus first|omega|(simp <;> omega)))|(refine Im.mk ?_;intro _)|(refine All.mk ?_;intro _)|(apply TkA.r;(focus repeat constructor))|(apply TkB.r;(focus repeat constructor))|(apply Ix.q;(focus exact rfl);(focus assumption))|(apply Ix.r;(focus assumption);(focus omega))|(apply At.r;(focus assumption))|refine Ce.l rfl ?_|refine Ce.r ?_|refine Ch.l ⟨rfl, rfl⟩ ?_|refine Ch.r ?_|(apply SetAk.r;(focus (repeat first|assumption|constructor)))|(apply SetAsk.r;(focus (repeat (first|exact SetAs.z|(apply SetAs.c;(focus (repeat first|assumption|constructor)))))))|(apply Fk.r;(focus (repeat (first|exact FillA.nil|(apply FillA.agg;(focus rfl);(focus rfl);(focus (repeat (first|exact SetAs.z|(apply SetAs.c;(focus (repeat first|assumption|constructor)))))))|(apply FillA.one;(focus rfl);(focus infer_instance);(focus (repeat first|assumption|constructor)))))))|(apply Nm.r;focus repeat constructor)|refine Rf.mk ⟨rfl, rfl⟩ ?_|refine Rf.mk ⟨rfl, rfl, rfl⟩ ?_|(apply Jx.r;(focus exact rfl);(focus first|omega|(simp;done)|(simp;omega)))|refine Up.r rfl ?_|(apply Up.inv;(focus repeat constructor);(focus infer_instance))|(apply Il.r;(focus repeat (first|apply ILit.cons|exact ILit.nil)))|(apply Kf.mk;(focus kernel_rfl))|(apply TkM.r;(focus repeat constructor))|refine UpV.r rfl ?_|(apply Zx.agg;(focus rfl);(focus rfl);(focus repeat constructor))|(apply Zx.b;(focus rfl))|(apply Zx.i;(focus rfl))|apply Zx.one|(apply LkM.s;(focus first|assumption|rfl))|(apply LkM.n;(focus first|assumption|rfl))|(apply Rf.mk;(focus assumption))|refine MkS.r intC 0 rfl ?_|refine Mp.same ?_|(apply Mp.lit;(focus repeat (first|exact MpL.nil|(apply MpL.cons;(focus rfl))|(apply MpL.inv;(focus repeat constructor);(focus infer_instance)))))|(apply CA.draw;(focus rfl);(focus kernel_rfl);(focus kernel_rfl);(focus repeat' constructor);(focus rfl))|exact trivial|(apply Lk.r;(focus assumption))|(apply Sx.r;(focus exact rfl);(focus first|omega|(simp;omega)))|(apply CA.drawF;(focus rfl);(focus kernel_rfl);(focus kernel_rfl);(focus repeat' constructor);(focus rfl);intro _n0 _hlt)|(apply NfK.nr;(focus rfl))|(apply NfK.lt;(focus first|assumption|omega|(apply _hlt;repeat constructor)))|(apply NfV.nr;(focus rfl))|apply RA'.both|(apply Ov.n;(focus first|omega|(simp <;> omega)))|(apply CpS.part;(focus (repeat constructor;done)))|(apply CpS.all;(focus (repeat constructor;done)))|(apply TkX.r;(focus repeat constructor))|(apply ExX.short;(focus rfl);(focus first|omega|(simp <;> omega));(focus first|omega|(simp <;> omega)))|(apply ExX.long;(focus rfl);(focus first|omega|(simp <;> omega));(focus first|omega|(simp <;> omega)))|(apply Ovl.mk';(focus repeat constructor);(focus repeat constructor);(focus decide))|(apply Cvk.i64;(focus rfl);(focus omega))|(apply Cvk.u64;(focus rfl);(focus omega))|(apply Cvk.u8;(focus rfl);(focus omega))|refine Rf.mk ⟨rfl, by decide⟩ ?_|(apply Rf.mk;(focus exact ⟨by decide, rfl⟩))|(apply Sx.r;(focus assumption);(focus first|omega|(simp;omega)))|(apply Ix.q;(focus assumption);(focus assumption))|(apply Cl.p (a1);(focus ((repeat' (first|exact Lend.nil|apply Lend.keep|apply Lend.nils|(apply Lend.mp;(focus rfl))|(apply Lend.lend;(focus repeat constructor);(focus first|omega|(simp;omega)))|(apply Lend.lendm;(focus repeat constructor);(focus rfl);(focus first|omega|decide|(simp;omega)|exact Nat.le_of_ble_eq_true rfl))|(apply Lend.cell;(focus repeat constructor))|refine Lend.fn ?_ ?_|apply Lend.agg));done)))|(apply Cl.p (a2);(focus ((repeat' (first|exact Lend.nil|apply Lend.keep|apply Lend.nils|(apply Lend.mp;(focus rfl))|(apply Lend.lend;(focus repeat constructor);(focus first|omega|(simp;omega)))|(apply Lend.lendm;(focus repeat constructor);(focus rfl);(focus first|omega|decide|(simp;omega)|exact Nat.le_of_ble_eq_true rfl))|(apply Lend.cell;(focus repeat constructor))|refine Lend.fn ?_ ?_|apply Lend.agg));done)))|(apply Cl.p (s1);(focus ((repeat' (first|exact Lend.nil|apply Lend.keep|apply Lend.nils|(apply Lend.mp;(focus rfl))|(apply Lend.lend;(focus repeat constructor);(focus first|omega|(simp;omega)))|(apply Lend.lendm;(focus repeat constructor);(focus rfl);(focus first|omega|decide|(simp;omega)|exact Nat.le_of_ble_eq_true rfl))|(apply Lend.cell;(focus repeat constructor))|refine Lend.fn ?_ ?_|apply Lend.agg));done)))|(apply Cl.p (s2);(focus ((repeat' (first|exact Lend.nil|apply Lend.keep|apply Lend.nils|(apply Lend.mp;(focus rfl))|(apply Lend.lend;(focus repeat constructor);(focus first|omega|(simp;omega)))|(apply Lend.lendm;(focus repeat constructor);(focus rfl);(focus first|omega|decide|(simp;omega)|exact Nat.le_of_ble_eq_true rfl))|(apply Lend.cell;(focus repeat constructor))|refine Lend.fn ?_ ?_|apply Lend.agg));done)))|(apply Cl.p (s3);(focus ((repeat' (first|exact Lend.nil|apply Lend.keep|apply Lend.nils|(apply Lend.mp;(focus rfl))|(apply Lend.lend;(focus repeat constructor);(focus first|omega|(simp;omega)))|(apply Lend.lendm;(focus repeat constructor);(focus rfl);(focus first|omega|decide|(simp;omega)|exact Nat.le_of_ble_eq_true rfl))|(apply Lend.cell;(focus repeat constructor))|refine Lend.fn ?_ ?_|apply Lend.agg));done)))|(apply Cl.p (s4);(focus ((repeat' (first|exact Lend.nil|apply Lend.keep|apply Lend.nils|(apply Lend.mp;(focus rfl))|(apply Lend.lend;(focus repeat constructor);(focus first|omega|(simp;omega)))|(apply Lend.lendm;(focus repeat constructor);(focus rfl);(focus first|omega|decide|(simp;omega)|exact Nat.le_of_ble_eq_true rfl))|(apply Lend.cell;(focus repeat constructor))|refine Lend.fn ?_ ?_|apply Lend.agg));done)))|(apply Cl.p (s5);(focus ((repeat' (first|exact Lend.nil|apply Lend.keep|apply Lend.nils|(apply Lend.mp;(focus rfl))|(apply Lend.lend;(focus repeat constructor);(focus first|omega|(simp;omega)))|(apply Lend.lendm;(focus repeat constructor);(focus rfl);(focus first|omega|decide|(simp;omega)|exact Nat.le_of_ble_eq_true rfl))|(apply Lend.cell;(focus repeat constructor))|refine Lend.fn ?_ ?_|apply Lend.agg));done)))|(apply Cl.p (s6);(focus ((repeat' (first|exact Lend.nil|apply Lend.keep|apply Lend.nils|(apply Lend.mp;(focus rfl))|(apply Lend.lend;(focus repeat constructor);(focus first|omega|(simp;omega)))|(apply Lend.lendm;(focus repeat constructor);(focus rfl);(focus first|omega|decide|(simp;omega)|exact Nat.le_of_ble_eq_true rfl))|(apply Lend.cell;(focus repeat constructor))|refine Lend.fn ?_ ?_|apply Lend.agg));done)))|(apply Cl.p (s7);(focus ((repeat' (first|exact Lend.nil|apply Lend.keep|apply Lend.nils|(apply Lend.mp;(focus rfl))|(apply Lend.lend;(focus repeat constructor);(focus first|omega|(simp;omega)))|(apply Lend.lendm;(focus repeat constructor);(focus rfl);(focus first|omega|decide|(simp;omega)|exact Nat.le_of_ble_eq_true rfl))|(apply Lend.cell;(focus repeat constructor))|refine Lend.fn ?_ ?_|apply Lend.agg));done)))|(apply Cl.p (q1);(focus ((repeat' (first|exact Lend.nil|apply Lend.keep|apply Lend.nils|(apply Lend.mp;(focus rfl))|(apply Lend.lend;(focus repeat constructor);(focus first|omega|(simp;omega)))|(apply Lend.lendm;(focus repeat constructor);(focus rfl);(focus first|omega|decide|(simp;omega)|exact Nat.le_of_ble_eq_true rfl))|(apply Lend.cell;(focus repeat constructor))|refine Lend.fn ?_ ?_|apply Lend.agg));done)))|(apply Cl.p (q2);(focus ((repeat' (first|exact Lend.nil|apply Lend.keep|apply Lend.nils|(apply Lend.mp;(focus rfl))|(apply Lend.lend;(focus repeat constructor);(focus first|omega|(simp;omega)))|(apply Lend.lendm;(focus repeat constructor);(focus rfl);(focus first|omega|decide|(simp;omega)|exact Nat.le_of_ble_eq_true rfl))|(apply Lend.cell;(focus repeat constructor))|refine Lend.fn ?_ ?_|apply Lend.agg));done)))|(apply Cl.p (q3);(focus ((repeat' (first|exact Lend.nil|apply Lend.keep|apply Lend.nils|(apply Lend.mp;(focus rfl))|(apply Lend.lend;(focus repeat constructor);(focus first|omega|(simp;omega)))|(apply Lend.lendm;(focus repeat constructor);(focus rfl);(focus first|omega|decide|(simp;omega)|exact Nat.le_of_ble_eq_true rfl))|(apply Lend.cell;(focus repeat constructor))|refine Lend.fn ?_ ?_|apply Lend.agg));done)))|(apply Cl.p (q4);(focus ((repeat' (first|exact Lend.nil|apply Lend.keep|apply Lend.nils|(apply Lend.mp;(focus rfl))|(apply Lend.lend;(focus repeat constructor);(focus first|omega|(simp;omega)))|(apply Lend.lendm;(focus repeat constructor);(focus rfl);(focus first|omega|decide|(simp;omega)|exact Nat.le_of_ble_eq_true rfl))|(apply Lend.cell;(focus repeat constructor))|refine Lend.fn ?_ ?_|apply Lend.agg));done)))|(apply Cl.p (q5);(focus ((repeat' (first|exact Lend.nil|apply Lend.keep|apply Lend.nils|(apply Lend.mp;(focus rfl))|(apply Lend.lend;(focus repeat constructor);(focus first|omega|(simp;omega)))|(apply Lend.lendm;(focus repeat constructor);(focus rfl);(focus first|omega|decide|(simp;omega)|exact Nat.le_of_ble_eq_true rfl))|(apply Lend.cell;(focus repeat constructor))|refine Lend.fn ?_ ?_|apply Lend.agg));done)))|(apply Cl.p (q6);(focus ((repeat' (first|exact Lend.nil|apply Lend.keep|apply Lend.nils|(apply Lend.mp;(focus rfl))|(apply Lend.lend;(focus repeat constructor);(focus first|omega|(simp;omega)))|(apply Lend.lendm;(focus repeat constructor);(focus rfl);(focus first|omega|decide|(simp;omega)|exact Nat.le_of_ble_eq_true rfl))|(apply Lend.cell;(focus repeat constructor))|refine Lend.fn ?_ ?_|apply Lend.agg));done))))
 all_goals exact Fin.p rfl rfl
end Go.Proofs.YtmllihbhphnolaaGreat
