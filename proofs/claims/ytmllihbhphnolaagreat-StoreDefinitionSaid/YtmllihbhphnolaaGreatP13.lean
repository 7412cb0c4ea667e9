/- Part 13 of the ground of this proof: what its texts say of the model, the program and the plain data; conditions: those that are named. -/
import Derived.Test.YtmllihbhphnolaaGreatP12
namespace Go.Proofs.YtmllihbhphnolaaGreat
open Go Go.CF
set_option maxRecDepth 20000
/-! ### The model -/
def tC : TblS := ⟨⟨#[99]⟩, 1, [], 0, 9, 0⟩
def cntM : ModS := ⟨[], [tC], [⟨#[99]⟩], [⟨0, 0, ⟨[(0, -1)], 0⟩, 0, 0⟩, ⟨0, 0, ⟨[(0, 1)], 9⟩, 0, 0⟩], [⟨⟨#[111]⟩, false, []⟩, ⟨⟨#[112]⟩, false, []⟩], [⟨0, [], ⟨[(0, 2)], [], []⟩⟩, ⟨1, [], ⟨[(0, -1)], [], []⟩⟩], []⟩
theorem cnt_a : CallA Tryz.prog 78 [] [] fun r own => ∃ vt vf t1 t2 vc vo d1 d2 va, r = .agg [nl0, .ow vt, .ow vf, .ow vc, .ow vo, .ow va, nl0] ∧ own = [
  arrR va 151 5 [[it 0, nl0, .ow d1, nl0, nl0], [it 1, nl0, .ow d2, nl0, nl0]] id,
  arrR d2 160 2 [[it 0, it (-1)]] id,
  arrR d1 160 2 [[it 0, it 2]] id,
  arrR vo 227 3 [[sv ⟨#[111]⟩, bl false, nl0], [sv ⟨#[112]⟩, bl false, nl0]] id,
  arrR vc 225 6 [[it 0, it 0, .ow t1, it 0, it 0, it 0], [it 0, it 0, .ow t2, it 9, it 0, it 0]] id,
  arrR t2 220 2 [[it 0, it 1]] id,
  arrR t1 220 2 [[it 0, it (-1)]] id,
  arrR vf 9 1 [[sv ⟨#[99]⟩]] id,
  arrR vt 157 6 [[sv ⟨#[99]⟩, it 1, nl0, it 0, it 9, it 0]] id] := by
 refine CallA.of pg ord78 Tryz.func78 rfl Tryz.ntmps78 Tryz.results78 rfl fun h0 G0 O0 => ?_
 repeat' (first|refine Sp.h ?_|refine Lk.r rfl ?_|refine Rf.mk rfl ?_|(refine All.mk ?_;intro _)|(apply TkB.r;(focus repeat constructor))|(apply SetAsk.r;(focus (repeat (first|exact SetAs.z|(apply SetAs.c;(focus (repeat first|assumption|constructor)))))))|(apply Fk.r;(focus (repeat (first|exact FillA.nil|(apply FillA.agg;(focus rfl);(focus rfl);(focus (repeat (first|exact SetAs.z|(apply SetAs.c;(focus (repeat first|assumption|constructor)))))))|(apply FillA.one;(focus rfl);(focus infer_instance);(focus (repeat first|assumption|constructor)))))))|(apply Nm.r;focus repeat constructor)|refine Rf.mk ⟨rfl, rfl, rfl⟩ ?_|fail)
 exact ⟨_, _, .one (.same (.nil (by (repeat first|exact .nil|refine .cons (by repeat constructor) ?_)))), _, _, _, _, _, _, _, _, _, rfl, rfl⟩
theorem cnt_p : CallP Tryz.prog 78 [] (mdl cntM) := by
 refine CallA.fx cnt_a ?_
 rintro _ _ ⟨vt, vf, t1, t2, vc, vo, d1, d2, va, rfl, rfl⟩
 repeat' (first
  | exact FX.nil
  | (apply FX.sl;(focus repeat constructor);(focus exact Nat.le_of_ble_eq_true rfl))
  | apply FX.agg
  | (apply FX.le;(focus first|exact ALe.nil|exact ALe.refl _)))
theorem cnt_mrg : mrgF cntM = [] := by simp [mrgF, mrgL, cntM, isStrict, tC]
theorem cnt_str : strF cntM = 1 := by simp [strF, strN, cntM, isStrict, szF, prodF, tC]
theorem cnt_lay : LayOK cntM.sorts cntM.tables := by
 refine ⟨by simp [cntM], fun x hx => by simp [cntM] at hx, by simp [cntM], fun t ht => ?_⟩
 simp only [cntM, List.mem_cons, List.not_mem_nil, or_false] at ht
 subst ht
 simp [TabOK, ColOK, Sound, cntM, tC]
theorem cnt_ok : MOK cntM := by
 refine ⟨cnt_lay, by simp [cntM], by simp [cntM], fun a ha => ?_, by rw [cnt_str];decide, by rw [cnt_mrg];decide⟩
 simp only [cntM, List.mem_cons, List.not_mem_nil, or_false] at ha
 rcases ha with rfl|rfl
 all_goals
  refine ⟨by simp, by simp, by simp, fun p hp => ?_, fun p hp => by simp at hp⟩
  simp only [List.mem_cons, List.not_mem_nil, or_false] at hp
  subst hp
  rw [cnt_str];decide
/-! ### Two events -/
def ca : EvS := ⟨0, 1, 1, [0, 0], 0, 0, 0, 0, 0, 0, 0, 0, 1⟩
def cb : EvS := ⟨1, 1, 1, [0, 0], 0, 1, 0, 0, 0, 0, 0, 0, 1⟩
theorem val2 (a b : Int) (ha : 0 ≤ a ∧ a ≤ 1024) (hb : 0 ≤ b ∧ b ≤ 1024) : ValC [a, b] := ⟨fun x hx => by
 simp only [List.mem_cons, List.not_mem_nil, or_false] at hx
 unfold rngK
 omega, by simp, by simp⟩
theorem ca_f : FormedE ca := ⟨val2 0 0 (by decide) (by decide), by decide, ⟨0, rfl, rfl⟩, by decide, by unfold Btw ca;decide, .inl ⟨rfl, by unfold Sub0 Btw ca;decide, by unfold GiveZ ca;decide⟩⟩
theorem cb_f : FormedE cb := ⟨val2 0 0 (by decide) (by decide), by decide, ⟨0, rfl, rfl⟩, by decide, by unfold Btw cb;decide, .inl ⟨rfl, by unfold Sub0 Btw cb;decide, by unfold GiveZ cb;decide⟩⟩
theorem cab_suit : SuitS cntM [3] [ca, cb] := by
 have hc : ClosedE [ca, cb] := by
  refine ⟨by simp, fun i j a b hi hj hab => ?_, fun e he => ?_, fun e he r n hr i h1 h2 => ?_⟩
  ·match i, j with
   | 0, 0 => rfl
   | 1, 1 => rfl
   | 0, 1 => simp at hi hj;subst hi;subst hj;simp [nm, ca, cb] at hab
   | 1, 0 => simp at hi hj;subst hi;subst hj;simp [nm, ca, cb] at hab
   | i + 2, _ => simp at hi
   | 0, j + 2 => simp at hj
   | 1, j + 2 => simp at hj
  ·simp only [List.mem_cons, List.not_mem_nil, or_false] at he
   rcases he with rfl|rfl
   ·exact ⟨ca_f, rfl⟩
   ·exact ⟨cb_f, rfl⟩
  ·exfalso
   simp only [List.mem_cons, List.not_mem_nil, or_false] at he
   have hn : n = 0 := by
    rcases he with rfl|rfl
    all_goals
     have := List.mem_of_getElem? hr
     simp [ca, cb] at this
     exact this
   omega
 refine ⟨⟨cnt_ok, ⟨by simp, fun e he => ?_⟩, hc, fun a ha u hu i t _ ht => ?_, fun e he => ?_⟩, by simp, by rw [cnt_str];rfl, by simp, fun a ha p hp => ?_⟩
 ·simp only [List.mem_cons, List.not_mem_nil, or_false] at he
  rcases he with rfl|rfl <;> simp [ca, cb]
 ·rw [cnt_mrg] at ht;simp at ht
 ·simp only [List.mem_cons, List.not_mem_nil, or_false] at he
  rcases he with rfl|rfl
  ·exact ⟨ca_f, rfl, fun _ => by decide⟩
  ·exact ⟨cb_f, rfl, fun _ => by decide⟩
 ·simp only [cntM, List.mem_cons, List.not_mem_nil, or_false] at ha
  rcases ha with rfl|rfl <;> (simp at hp;subst hp;decide)
theorem cab_ext : ExtO [ca, cb] [ca, cb] := by
 have hno : ∀ e, e = ca ∨ e = cb → ∀ d : EvS, ¬ HasC e.past d.rep d.num := fun e he d ⟨_, _, h1, x, hx, h2⟩ => by
  have h3 : e.past = [0, 0] := by rcases he with rfl|rfl <;> rfl
  rw [h3] at hx
  have := List.mem_of_getElem? hx
  simp at this
  omega
 refine ⟨fun e he => he, fun i e he => ⟨?_, fun d hd hh => absurd hh (hno e (by have := List.mem_of_getElem? he;simpa using this) d)⟩⟩
 match i with
 | 0 => simp
 | 1 => simp at he;subst he;simp [ca, cb]
 | i + 2 => simp at he
theorem cab_1 : deliverF cntM [] (stN cntM 2 [3] []) ca = (0, stN cntM 2 [3] [ca]) := (fill_sto cab_suit (by simp) cab_ext 0 (by simp)).2 ca rfl
theorem cab_2 : deliverF cntM [ca] (stN cntM 2 [3] [ca]) cb = (0, stN cntM 2 [3] [ca, cb]) := (fill_sto cab_suit (by simp) cab_ext 1 (by simp)).2 cb rfl
theorem st_cab : (stN cntM 2 [3] [ca, cb]).clock = [1, 1] ∧ (stN cntM 2 [3] [ca, cb]).state = [4] := by
 exact ⟨rfl, rfl⟩
theorem has_2 (x y : Int) (hx : 0 ≤ x ∧ x ≤ 1024) (hy : 0 ≤ y ∧ y ≤ 1024) : (HasC [x, y] 0 1 ↔ 1 ≤ x) ∧ (HasC [x, y] 1 1 ↔ 1 ≤ y) :=
 ⟨⟨fun ⟨_, _, _, z, h1, h2⟩ => by simp at h1;omega, fun h => ⟨val2 x y hx hy, by decide, by decide, x, rfl, h⟩⟩, ⟨fun ⟨_, _, _, z, h1, h2⟩ => by simp at h1;omega, fun h => ⟨val2 x y hx hy, by decide, by decide, y, rfl, h⟩⟩⟩
theorem ins_2 {a b c d : Int} (h1 : a ≤ c) (h2 : b ≤ d) : Ins [a, b] [c, d] := fun i x y hx hy => by
 match i with
 | 0 => simp at hx hy;omega
 | 1 => simp at hx hy;omega
 | i + 2 => simp at hx
theorem cab_3 : ∃ B N, compactF cntM ⟨stN cntM 2 [3] [], [ca, cb], stN cntM 2 [3] [ca, cb]⟩ [1, 0] = (0, ⟨B, [cb], N⟩) ∧ B.state = [5] ∧ SzN B ∧ N.clock = [1, 1] := by
 have hb : (stN cntM 2 [3] []).clock = [0, 0] := rfl
 obtain ⟨h1, h2⟩ := has_2 1 0 (by decide) (by decide)
 have e1 : inL [1, 0] [ca, cb] = [ca] := by
  have a1 : HasC [1, 0] ca.rep ca.num := h1.2 (by decide)
  have a2 : ¬ HasC [1, 0] cb.rep cb.num := fun h => absurd (h2.1 h) (by decide)
  simp [inL, a1, a2]
 have e2 : outL [1, 0] [ca, cb] = [cb] := by
  have a1 : HasC [1, 0] ca.rep ca.num := h1.2 (by decide)
  have a2 : ¬ HasC [1, 0] cb.rep cb.num := fun h => absurd (h2.1 h) (by decide)
  simp [outL, a1, a2]
 refine ⟨cmpB cntM (stN cntM 2 [3] []) [1, 0] [ca, cb], { stN cntM 2 [3] [ca, cb] with merged := [cb].foldl (mrg1 cntM) (cmpB cntM (stN cntM 2 [3] []) [1, 0] [ca, cb]).merged }, ?_, ?_, ?_, st_cab.1⟩
 ·have q1 : ValC [1, 0] ∧ ([1, 0] : List Int).length = (stN cntM 2 [3] [ca, cb]).clock.length := ⟨val2 1 0 (by decide) (by decide), rfl⟩
  have q2 : Ins (stN cntM 2 [3] []).clock [1, 0] ∧ Ins [1, 0] (stN cntM 2 [3] [ca, cb]).clock ∧ ∀ e ∈ [ca, cb], HasC [1, 0] e.rep e.num → Ins e.past [1, 0] := by
   refine ⟨by rw [hb];exact ins_2 (by decide) (by decide), by rw [st_cab.1];exact ins_2 (by decide) (by decide), fun e he _ => ?_⟩
   simp only [List.mem_cons, List.not_mem_nil, or_false] at he
   rcases he with rfl|rfl <;> exact ins_2 (by decide) (by decide)
  refine (@if_neg _ (Classical.propDecidable _) (fun h9 => h9 q1) _ _ _).trans ((@if_neg _ (Classical.propDecidable _) (fun h9 => h9 q2) _ _ _).trans ?_)
  simp only [e2]
 ·rw [cmpB, e1];rfl
 ·rw [cmpB, e1]
  have hsz : SzM (mrg1 cntM (stN cntM 2 [3] []).merged ca) := mrg1_sz (by
   simp only [stN, List.foldl_nil, cnt_mrg]
   exact ⟨by simp, by simp⟩)
  exact ⟨by simp, by simp only [List.foldl_cons, List.foldl_nil, cmp1, addE_len];simp [stN], hsz.1, hsz.2, by simp only [List.foldl_cons, List.foldl_nil, cmp1];simp [stN, plE, ca]⟩
theorem cmk : makeF cntM (stN cntM 2 [3] []) 0 { ev0 with serial := 1 } = (0, ca) := by
 have hm : mkN (stN cntM 2 [3] []) 0 { ev0 with serial := 1 } = ca := rfl
 rw [makeF, if_neg (by show ¬ ((0:Int) < 0 ∨ (2:Int) ≤ 0);decide), if_neg (by show ¬ ((1024:Int) ≤ 0 ∨ (1073741824 : Int) ≤ 0);decide), hm, if_neg (fun h => h ⟨ca_f, rfl, fun _ => by decide⟩)]
end Go.Proofs.YtmllihbhphnolaaGreat
namespace Go.Proofs.YtmllihbhphnolaaGreat
open Go Go.CF
set_option maxRecDepth 20000
set_option maxHeartbeats 2000000 in
theorem equal32_p (a b : EvS) : CallP Tryz.prog 113 [evA' a, evA' b] (.val (.bool (decide (a = b)))) := by
 refine CallA.of pg ord113 Tryz.func113 rfl Tryz.ntmps113 Tryz.results113 rfl fun h0 G0 O0 => ?_
 repeat' (first|refine Sp.h ?_|refine Lk.r rfl ?_|refine Rf.mk rfl ?_|(apply Bd.t;(focus first|assumption|omega|rfl))|(apply Bd.f;(focus first|assumption|omega|exact Bool.false_ne_true))|(refine Bd.mk ?_ ?_ <;> intro _)|(refine All.mk ?_;intro _)|(apply TkB.r;(focus repeat constructor))|(apply Nm.r;focus repeat constructor)|fail)
 (apply Cl.p (intsR_p _ _);(focus repeat' (first|exact Lend.nil|apply Lend.keep|fail)))
 repeat' (first|refine Sp.h ?_|refine Lk.r rfl ?_|refine Rf.mk rfl ?_|(apply Bd.t;(focus first|assumption|omega|rfl))|(apply Bd.f;(focus first|assumption|omega|exact Bool.false_ne_true))|(refine Bd.mk ?_ ?_ <;> intro _)|(apply TkB.r;(focus repeat constructor))|refine Ch.r ?_|(apply Nm.r;focus repeat constructor)|(apply Il.r;(focus repeat (first|apply ILit.cons|exact ILit.nil)))|(apply Kf.mk;(focus kernel_rfl))|fail)
 all_goals refine Fin.p rfl (vb ?_)
 ·refine decide_eq_decide.2 ⟨fun h => ?_, fun h => by rw [h]⟩
  cases a;cases b;simp_all
 all_goals exact (decide_eq_false (fun h => by subst h;first|contradiction|simp_all)).symm
theorem same32_p (a b : List EvS) : CallP Tryz.prog 41 [evs a, evs b] (bl (decide (a = b))) := by
 refine CallA.of pg ord41 Tryz.func41 rfl Tryz.ntmps41 Tryz.results41 rfl fun h0 G0 O0 => ?_
 by_cases hl : a.length = b.length
 rotate_left
 ·repeat' (first|refine Sp.h ?_|refine Lk.r rfl ?_|refine Rf.mk rfl ?_|(apply Bd.f;(focus first|assumption|omega|exact Bool.false_ne_true))|(refine Im.mk ?_;intro _)|(apply Nm.r;focus repeat constructor)|fail)
  exact Fin.p rfl (vb (decide_eq_false (fun e => hl (by rw [e]))).symm)
 repeat' (first|refine Sp.h ?_|refine Lk.r rfl ?_|refine Rf.mk rfl ?_|(apply Bd.t;(focus first|assumption|omega|rfl))|(refine Im.mk ?_;intro _)|fail)
 refine CA.loop (fun i : Nat => ⟨[(0, evs a), (1, evs b), (5, it i)], []⟩) (fun i => i ≤ a.length ∧ ∀ (j : Nat) x y, j < i → a[j]? = some x → b[j]? = some y → x = y) (fun i => a.length - i) 0 ⟨by repeat first|trivial|refine ⟨rfl,?_⟩,by repeat first|exact .nil|refine .cons (by repeat constructor) ?_⟩ ⟨Nat.zero_le _, fun j x y h => by omega⟩ ?_
 rintro i ⟨hi, ha⟩
 by_cases hin : i < a.length
 ·obtain ⟨x, hx⟩ := get_of hin
  obtain ⟨y, hy⟩ := get_of (l := b) (i := i) (by omega)
  have he := equal32_p x y
  by_cases hxy : x = y
  ·rw [decide_eq_true hxy] at he
   repeat' (first|refine Sp.h ?_|refine Lk.r rfl ?_|refine Rf.mk rfl ?_|(apply Bd.t;(focus first|assumption|omega|rfl))|refine OpK.r rfl ?_|(refine Im.mk ?_;intro _)|(apply Ix.q;(focus exact rfl);(focus assumption))|refine Ch.l ⟨rfl, rfl⟩ ?_|(apply CA.draw;(focus rfl);(focus kernel_rfl);(focus kernel_rfl);(focus repeat' constructor);(focus rfl))|(apply Ov.n;(focus first|omega|(simp <;> omega)))|(apply Cl.p (he);(focus repeat' (first|exact Lend.nil|apply Lend.keep|fail))))
   all_goals
    refine PA.lp (i + 1) ⟨by repeat first|trivial|refine ⟨rfl,?_⟩,by repeat first|exact .nil|refine .cons (by repeat constructor) ?_⟩ ⟨⟨hin, fun j x' y' h1 h2 h3 => ?_⟩, by omega⟩
    by_cases hij : j = i
    ·subst hij;rw [hx] at h2;rw [hy] at h3;cases h2;cases h3;exact hxy
    ·exact ha j x' y' (by omega) h2 h3
  ·rw [decide_eq_false hxy] at he
   repeat' (first|refine Sp.h ?_|refine Lk.r rfl ?_|refine Rf.mk rfl ?_|(apply Bd.t;(focus first|assumption|omega|rfl))|(apply Bd.f;(focus first|assumption|omega|exact Bool.false_ne_true))|refine OpK.r rfl ?_|(refine Im.mk ?_;intro _)|(apply Ix.q;(focus exact rfl);(focus assumption))|refine Ch.l ⟨rfl, rfl⟩ ?_|(apply Nm.r;focus repeat constructor)|(apply CA.draw;(focus rfl);(focus kernel_rfl);(focus kernel_rfl);(focus repeat' constructor);(focus rfl))|(apply Cl.p (he);(focus repeat' (first|exact Lend.nil|apply Lend.keep|fail))))
   all_goals exact Fin.p rfl (vb (decide_eq_false (fun e => hxy (by subst e;rw [hx] at hy;cases hy;rfl))).symm)
 ·have hie : i = a.length := by omega
  subst hie
  repeat' (first|refine Sp.h ?_|refine Lk.r rfl ?_|refine Rf.mk rfl ?_|(apply Bd.f;(focus first|assumption|omega|exact Bool.false_ne_true))|(refine Im.mk ?_;intro _)|(apply Nm.r;focus repeat constructor)|fail)
  refine Fin.p rfl (vb (decide_eq_true (List.ext_getElem? fun j => ?_)).symm)
  by_cases hj : j < a.length
  ·obtain ⟨x, hx⟩ := get_of hj
   obtain ⟨y, hy⟩ := get_of (l := b) (i := j) (by omega)
   rw [hx, hy, ha j x y hj hx hy]
  ·rw [List.getElem?_eq_none (by omega), List.getElem?_eq_none (by omega)]
theorem stN_okC (X : List EvS) (hX : ∀ e ∈ X, e ∈ [ca, cb]) (hl : X.length ≤ 1000) : NowOK cntM (stN cntM 2 [3] X) := stN_ok cab_suit hX hl
set_option maxHeartbeats 8000000 in
theorem awake35_p : CallP Tryz.prog 13 [] (bl true) := by
 have hc := cnt_p
 have h1 := new35_a cntM 2 [3] cnt_ok (by decide) (by rw [cnt_str];rfl) (insS_ld (by simp))
 have h2 : ∀ p v, CallA Tryz.prog 18 [pm p, it 0, evA' { ev0 with serial := 1 }] [stoR p cntM (stN cntM 2 [3] []) v (stN cntM 2 [3] [])] fun q own => q = .tup [evA' ca, it 0] ∧ own = [stoR p cntM (stN cntM 2 [3] []) v (stN cntM 2 [3] [])] := fun p v => by
  have := smake_a p cntM (stN cntM 2 [3] []) v (stN cntM 2 [3] []) 0 { ev0 with serial := 1 } (by simp [stN, clkE]) (by simp [stN, clkE]) (by simp [stN])
  rwa [cmk] at this
 have h3 : ∀ p v, CallA Tryz.prog 21 [pm p, evA' ca] [stoR p cntM (stN cntM 2 [3] []) v (stN cntM 2 [3] []), arrR v 37 13 ([] : List EvS) evC] fun r own => r = it 0 ∧ ∃ v', own = [stoR p cntM (stN cntM 2 [3] []) v' (stN cntM 2 [3] [ca]), arrR v' 37 13 [ca] evC] := fun p v => by
  have := deliver_a p cntM (stN cntM 2 [3] []) v [] (stN cntM 2 [3] []) ca cnt_ok (stN_okC [] (by simp) (by simp)) (by simp)
  rw [evsD, cab_1, if_pos rfl] at this
  exact this
 have h4 : ∀ p v, CallA Tryz.prog 21 [pm p, evA' cb] [stoR p cntM (stN cntM 2 [3] []) v (stN cntM 2 [3] [ca]), arrR v 37 13 [ca] evC] fun r own => r = it 0 ∧ ∃ v', own = [stoR p cntM (stN cntM 2 [3] []) v' (stN cntM 2 [3] [ca, cb]), arrR v' 37 13 [ca, cb] evC] := fun p v => by
  have := deliver_a p cntM (stN cntM 2 [3] []) v [ca] (stN cntM 2 [3] [ca]) cb cnt_ok (stN_okC [ca] (by simp) (by simp)) (by simp)
  rw [evsD, cab_2, if_pos rfl] at this
  exact this
 obtain ⟨⟨bc, bt, bs, bm, bp⟩, ⟨nc, nt, ns, nm', np⟩, c1, c2, c3, c4⟩ := cab_3
 simp only at c2 c4
 subst c2
 subst c4
 obtain ⟨B, hB⟩ : ∃ B : NowS, B = ⟨bc, bt, [5], bm, bp⟩ := ⟨_, rfl⟩
 obtain ⟨N, hN⟩ : ∃ N : NowS, N = ⟨[1, 1], nt, ns, nm', np⟩ := ⟨_, rfl⟩
 rw [← hB, ← hN] at c1
 have h5 : ∀ p v, CallA Tryz.prog 66 [pm p, ints [1, 0]] [stoR p cntM (stN cntM 2 [3] []) v (stN cntM 2 [3] [ca, cb]), arrR v 37 13 [ca, cb] evC] fun r own => r = it 0 ∧ ∃ v', own = [stoR p cntM B v' N, arrR v' 37 13 [cb] evC] := fun p v => by
  have hN := stN_okC [ca, cb] (by simp) (by simp)
  have h0 := stN_okC [] (by simp) (by simp)
  have := compact_a p cntM (stN cntM 2 [3] []) v [ca, cb] (stN cntM 2 [3] [ca, cb]) [1, 0] cnt_ok hN ⟨h0.clk, rfl, h0.st, by simp only [stN, List.foldl_nil, cnt_mrg];exact ⟨by simp, by simp⟩, h0.pls, by simp [stN]⟩ (by simp) (fun e he => by
   simp only [List.mem_cons, List.not_mem_nil, or_false] at he
   rcases he with rfl|rfl
   ·exact ⟨ca_f, rfl, fun _ => by decide⟩
   ·exact ⟨cb_f, rfl, fun _ => by decide⟩)
  rw [c1] at this
  exact this
 have e4 := equal_p [4] [4]
 have e5 := equal_p [5] [5]
 have e11 := equal_p [1, 1] [1, 1]
 have es := same32_p [cb] [cb]
 rw [decide_eq_true rfl] at e4 e5 e11 es
 have e5' : CallP Tryz.prog 19 [ints B.state, ints [5]] (bl true) := by rw [show B.state = [5] by rw [hB]];exact e5
 have e11' : CallP Tryz.prog 19 [ints N.clock, ints [1, 1]] (bl true) := by rw [show N.clock = [1, 1] by rw [hN]];exact e11
 refine CallA.of pg ord13 Tryz.func13 rfl Tryz.ntmps13 Tryz.results13 rfl fun h0 G0 O0 => ?_
 repeat' (first|refine Sp.h ?_|refine Lk.r rfl ?_|refine Rf.mk rfl ?_|(refine All.mk ?_;intro _)|(apply Fk.r;(focus (repeat (first|exact FillA.nil|(apply FillA.agg;(focus rfl);(focus rfl);(focus (repeat (first|exact SetAs.z|(apply SetAs.c;(focus (repeat first|assumption|constructor)))))))|(apply FillA.one;(focus rfl);(focus infer_instance);(focus (repeat first|assumption|constructor)))))))|refine Rf.mk ⟨rfl, rfl, rfl⟩ ?_|(apply Cl.p (hc);(focus repeat' (first|exact Lend.nil|fail))))
 apply Cl.fx [mdl cntM, it 2, ints [3]]
 focus (repeat' (first|exact FX.nil|(apply FX.sl;(focus repeat constructor);(focus exact Nat.le_of_ble_eq_true rfl))|(apply FX.le;(focus first|exact ALe.refl _|exact ALe.nil))|apply FX.agg|apply FX.tup))
 (apply Cl.use (h1);(focus repeat' (first|exact Lend.nil|apply Lend.keep|fail));(focus (repeat (first|exact Takes.nil|(apply Takes.cons;(focus repeat constructor)))));(focus rfl))
 rintro _ _ ⟨p, v, rfl, rfl⟩
 repeat' (first|refine Sp.h ?_|refine Lk.r rfl ?_|refine Rf.mk rfl ?_|(apply Bd.t;(focus first|assumption|omega|rfl))|(apply Bd.f;(focus first|assumption|omega|exact Bool.false_ne_true))|(apply Fk.r;(focus (repeat (first|exact FillA.nil|(apply FillA.agg;(focus rfl);(focus rfl);(focus (repeat (first|exact SetAs.z|(apply SetAs.c;(focus (repeat first|assumption|constructor)))))))|(apply FillA.one;(focus rfl);(focus infer_instance);(focus (repeat first|assumption|constructor)))))))|fail)
 apply Cl.fx [pm p, it 0, evA' { ev0 with serial := 1 }]
 focus (repeat' (first|exact FX.nil|(apply FX.sl;(focus repeat constructor);(focus exact Nat.le_of_ble_eq_true rfl))|(apply FX.le;(focus first|exact ALe.refl _|exact ALe.nil))|apply FX.agg|apply FX.tup))
 (apply Cl.use (h2 p v);(focus repeat' (first|exact Lend.nil|apply Lend.keep|fail));(focus (repeat (first|exact Takes.nil|(apply Takes.cons;(focus repeat constructor)))));(focus rfl))
 rintro _ _ ⟨rfl, rfl⟩
 (repeat' (first|(show CA _ _ (Code.region 6 _ _) _ _;apply Stopped.out)|refine Sp.h ?_|refine Lk.r rfl ?_|refine Rf.mk rfl ?_|(refine All.mk ?_;intro _)|(apply TkB.r;(focus repeat constructor))|(apply SetAsk.r;(focus (repeat (first|exact SetAs.z|(apply SetAs.c;(focus (repeat first|assumption|constructor)))))))|(apply Fk.r;(focus (repeat (first|exact FillA.nil|(apply FillA.agg;(focus rfl);(focus rfl);(focus (repeat (first|exact SetAs.z|(apply SetAs.c;(focus (repeat first|assumption|constructor)))))))|(apply FillA.one;(focus rfl);(focus infer_instance);(focus (repeat first|assumption|constructor)))))))|(apply Nm.r;focus repeat constructor)|refine Rf.mk ⟨rfl, rfl, rfl⟩ ?_|fail));any_goals apply Stopped.mk
 rename_i b3 u b4
 apply CA.own
 focus (apply OX.blk (b := b4);(focus repeat constructor);(focus (apply FX.k;apply FX.k;apply FX.k;apply FX.sl (ys := [0, 0]) (g := intC);(focus repeat constructor);(focus exact Nat.le_of_ble_eq_true rfl);(focus exact FX.le (ALe.refl _) (FX.le (ALe.refl _) FX.nil));exact FX.refl _));(focus repeat constructor))
 repeat' (first|refine Sp.h ?_|refine Lk.r rfl ?_|refine Rf.mk rfl ?_|(apply Bd.t;(focus first|assumption|omega|rfl))|(apply TkB.r;(focus repeat constructor))|refine Ch.l ⟨rfl, rfl⟩ ?_|fail)
 (apply Cl.use (h3 p v);(focus repeat' (first|exact Lend.nil|apply Lend.keep|fail));(focus (repeat (first|exact Takes.nil|(apply Takes.cons;(focus repeat constructor)))));(focus rfl))
 rintro _ _ ⟨rfl, v1, rfl⟩
 repeat' (first|refine Sp.h ?_|refine Lk.r rfl ?_|refine Rf.mk rfl ?_|(apply Bd.t;(focus first|assumption|omega|rfl))|(apply TkB.r;(focus repeat constructor))|refine Ch.l ⟨rfl, rfl⟩ ?_|fail)
 (apply Cl.use (h4 p v1);(focus repeat' (first|exact Lend.nil|apply Lend.keep|fail));(focus (repeat (first|exact Takes.nil|(apply Takes.cons;(focus repeat constructor)))));(focus rfl))
 rintro _ _ ⟨rfl, v2, rfl⟩
 have h6 := sstate_p p cntM (stN cntM 2 [3] []) v2 (stN cntM 2 [3] [ca, cb]) (by rw [st_cab.2];decide)
 rw [st_cab.2] at h6
 repeat' (first|refine Sp.h ?_|refine Lk.r rfl ?_|refine Rf.mk rfl ?_|(apply Bd.t;(focus first|assumption|omega|rfl))|fail)
 (apply Cl.use (h6);(focus repeat' (first|exact Lend.nil|apply Lend.keep|fail));(focus (repeat (first|exact Takes.nil|(apply Takes.cons;(focus repeat constructor)))));(focus rfl))
 rintro _ _ ⟨rfl, rfl⟩
 repeat' (first|refine Sp.h ?_|refine Lk.r rfl ?_|refine Rf.mk rfl ?_|(apply Bd.t;(focus first|assumption|omega|rfl))|(refine All.mk ?_;intro _)|(apply Fk.r;(focus (repeat (first|exact FillA.nil|(apply FillA.agg;(focus rfl);(focus rfl);(focus (repeat (first|exact SetAs.z|(apply SetAs.c;(focus (repeat first|assumption|constructor)))))))|(apply FillA.one;(focus rfl);(focus infer_instance);(focus (repeat first|assumption|constructor)))))))|refine Rf.mk ⟨rfl, rfl, rfl⟩ ?_|fail)
 (apply Cl.lend (e4);(focus repeat' (first|exact Lend.nil|apply Lend.keep|(apply Lend.lendm;(focus repeat constructor);(focus rfl);(focus first|omega|decide|(simp;omega)|exact Nat.le_of_ble_eq_true rfl))|fail)))
 repeat' (first|refine Sp.h ?_|refine Lk.r rfl ?_|refine Rf.mk rfl ?_|(apply Bd.t;(focus first|assumption|omega|rfl))|(refine All.mk ?_;intro _)|(apply Fk.r;(focus (repeat (first|exact FillA.nil|(apply FillA.agg;(focus rfl);(focus rfl);(focus (repeat (first|exact SetAs.z|(apply SetAs.c;(focus (repeat first|assumption|constructor)))))))|(apply FillA.one;(focus rfl);(focus infer_instance);(focus (repeat first|assumption|constructor)))))))|refine Rf.mk ⟨rfl, rfl, rfl⟩ ?_|fail)
 apply Cl.fx [pm p, ints [1, 0]]
 focus (repeat' (first|exact FX.nil|(apply FX.sl;(focus repeat constructor);(focus exact Nat.le_of_ble_eq_true rfl))|(apply FX.le;(focus first|exact ALe.refl _|exact ALe.nil))|apply FX.agg|apply FX.tup))
 (apply Cl.use (h5 p v2);(focus repeat' (first|exact Lend.nil|apply Lend.keep|fail));(focus (repeat (first|exact Takes.nil|(apply Takes.cons;(focus repeat constructor)))));(focus rfl))
 rintro _ _ ⟨rfl, v3, rfl⟩
 have h7 := sbase_r cntM B N [cb] (by rw [hB];exact c3)
 have h8 := sevents_z cntM B N [cb] (by simp) (by simp [cb])
 have h9 := sclock_z cntM B N [cb] (by rw [hN];simp)
 (repeat' (first|(show CA _ _ (Code.region 9 _ _) _ _;apply Stopped.out)|refine Sp.h ?_|refine Lk.r rfl ?_|fail));any_goals apply Stopped.mk
 (apply CA.own;(focus (apply OX.blk (b := p);(focus repeat constructor);(focus (repeat' (first|exact FX.nil|(apply FX.s1;(focus repeat constructor);(focus first|omega|(simp;done)|(simp;omega)))|apply FX.k)));(focus repeat constructor))))
 apply CA.freezeB 1
 focus rfl
 focus (repeat constructor)
 repeat' (first|refine Sp.h ?_|refine Lk.r rfl ?_|refine Rf.mk rfl ?_|(apply Bd.t;(focus first|assumption|omega|rfl))|refine OpK.r rfl ?_|(refine All.mk ?_;intro _)|(apply TkB.r;(focus repeat constructor))|refine Ch.l ⟨rfl, rfl⟩ ?_|(apply Fk.r;(focus (repeat (first|exact FillA.nil|(apply FillA.agg;(focus rfl);(focus rfl);(focus (repeat (first|exact SetAs.z|(apply SetAs.c;(focus (repeat first|assumption|constructor)))))))|(apply FillA.one;(focus rfl);(focus infer_instance);(focus (repeat first|assumption|constructor)))))))|(apply Nm.r;focus repeat constructor)|refine Rf.mk ⟨rfl, rfl, rfl⟩ ?_|(apply CA.draw;(focus rfl);(focus kernel_rfl);(focus kernel_rfl);(focus repeat' constructor);(focus rfl))|exact trivial|apply RA'.both|(apply Cl.p (h7);(focus ((repeat' (first|exact Lend.nil|apply Lend.keep|(apply Lend.lendm;(focus repeat constructor);(focus rfl);(focus first|omega|decide|(simp;omega)|exact Nat.le_of_ble_eq_true rfl))|fail));done)))|(apply Cl.p (h8);(focus ((repeat' (first|exact Lend.nil|apply Lend.keep|(apply Lend.lendm;(focus repeat constructor);(focus rfl);(focus first|omega|decide|(simp;omega)|exact Nat.le_of_ble_eq_true rfl))|fail));done)))|(apply Cl.p (h9);(focus ((repeat' (first|exact Lend.nil|apply Lend.keep|(apply Lend.lendm;(focus repeat constructor);(focus rfl);(focus first|omega|decide|(simp;omega)|exact Nat.le_of_ble_eq_true rfl))|fail));done)))|(apply Cl.lend (e5');(focus ((repeat' (first|exact Lend.nil|apply Lend.keep|(apply Lend.lendm;(focus repeat constructor);(focus rfl);(focus first|omega|decide|(simp;omega)|exact Nat.le_of_ble_eq_true rfl))|fail));done)))|(apply Cl.lend (es);(focus ((repeat' (first|exact Lend.nil|apply Lend.keep|(apply Lend.lendm;(focus repeat constructor);(focus rfl);(focus first|omega|decide|(simp;omega)|exact Nat.le_of_ble_eq_true rfl))|fail));done)))|(apply Cl.lend (e11');(focus ((repeat' (first|exact Lend.nil|apply Lend.keep|(apply Lend.lendm;(focus repeat constructor);(focus rfl);(focus first|omega|decide|(simp;omega)|exact Nat.le_of_ble_eq_true rfl))|fail));done))))
 all_goals exact Fin.p rfl rfl
end Go.Proofs.YtmllihbhphnolaaGreat
namespace Go.Proofs.YtmllihbhphnolaaGreat
open Go Go.CF
set_option maxRecDepth 20000
theorem estrict_p (t : TblS) : CallP Tryz.prog 134 [.agg (tblC t)] (bl (decide (isStrict t.kind))) := by
 refine CallA.of pg ord134 Tryz.func134 rfl Tryz.ntmps134 Tryz.results134 rfl fun h0 G0 O0 => ?_
 repeat' (first|refine Sp.h ?_|refine Lk.r rfl ?_|refine Rf.mk rfl ?_|(apply Bd.t;(focus first|assumption|omega|rfl))|(apply Bd.f;(focus first|assumption|omega|exact Bool.false_ne_true))|(refine Bd.mk ?_ ?_ <;> intro _)|(refine All.mk ?_;intro _)|(apply TkB.r;(focus repeat constructor))|(apply Nm.r;focus repeat constructor)|fail)
 all_goals exact Fin.p rfl (vb (by first|exact (decide_eq_true (by unfold isStrict;omega)).symm|exact (decide_eq_false (by unfold isStrict;omega)).symm|exact decide_eq_decide.2 (by unfold isStrict;omega)))
theorem esize_p (m : ModS) (t : TblS) (h : ColOK m.sorts t.cols) : CallP Tryz.prog 135 [mdl m, .agg (tblC t)] (it (szF m t : Nat)) := by
 have h1 := sz_fit (m := m) h
 refine CallA.of pg ord135 Tryz.func135 rfl Tryz.ntmps135 Tryz.results135 rfl fun h0 G0 O0 => ?_
 repeat' (first|refine Sp.h ?_|refine Lk.r rfl ?_|refine Rf.mk rfl ?_|(refine Im.mk ?_;intro _)|(refine All.mk ?_;intro _)|(apply TkB.r;(focus repeat constructor))|fail)
 rename_i b2 b3 _
 refine CA.loop (fun k : Nat => ⟨[(2, pm b2), (5, it (prodF m.sorts (t.cols.take k))), (9, ints t.cols), (10, it (t.cols.length : Nat)), (11, it k)], [mR b2 m]⟩) (fun k => k ≤ t.cols.length) (fun k => t.cols.length - k) 0 ⟨by repeat first|trivial|refine ⟨rfl,?_⟩,by repeat first|exact .nil|refine .cons (by repeat constructor) ?_⟩ (Nat.zero_le _) ?_
 intro k hk
 by_cases hkn : k < t.cols.length
 ·obtain ⟨x, hx⟩ := get_of hkn
  obtain ⟨j, rfl, y, hy, hy1, hy2⟩ := col_get h hx
  have hb := prod_succ hx (show m.sorts[((j : Int)).toNat]? = some y by simpa using hy)
  have hp := prod_fit h k
  have hp2 := prod_fit h (k + 1)
  rw [hb] at hp2
  have hj := (List.getElem?_eq_some_iff.1 hy).1
  repeat' (first|refine Sp.h ?_|refine Lk.r rfl ?_|refine Rf.mk rfl ?_|(apply Bd.t;(focus first|assumption|omega|rfl))|(apply Om.mk;(focus first|omega|(simp <;> omega)))|(apply TkB.r;(focus repeat constructor))|(apply Ix.q;(focus exact rfl);(focus assumption))|(apply Ov.n;(focus first|omega|(simp <;> omega)))|fail)
  rw [← hb]
  exact PA.lp (k + 1) ⟨by repeat first|trivial|refine ⟨rfl,?_⟩,by repeat first|exact .nil|refine .cons (by repeat constructor) ?_⟩ ⟨hkn, by omega⟩
 ·have hke : k = t.cols.length := by omega
  subst hke
  simp only [List.take_length]
  rw [h1.1]
  repeat' (first|refine Sp.h ?_|refine Lk.r rfl ?_|refine Rf.mk rfl ?_|(apply Bd.f;(focus first|assumption|omega|exact Bool.false_ne_true))|(apply Nm.r;focus repeat constructor)|fail)
  exact Fin.p rfl rfl
theorem evalid1_p (m : ModS) (e : EvS) : CallP Tryz.prog 195 [evA' e, .ad (modC m) 0] (bl (decide (¬ EvV m (e.past.length : Nat) e))) := by
 have h := evalid_p m (e.past.length : Nat) e
 refine CallA.of pg ord195 Tryz.func195 rfl Tryz.ntmps195 Tryz.results195 rfl fun h0 G0 O0 => ?_
 repeat' (first|refine Sp.h ?_|refine Lk.r rfl ?_|refine Rf.mk rfl ?_|(refine Im.mk ?_;intro _)|(refine All.mk ?_;intro _)|(apply TkB.r;(focus repeat constructor))|refine Ch.l ⟨rfl, rfl⟩ ?_|(apply Nm.r;focus repeat constructor)|(apply Cl.p (h);(focus repeat' (first|exact Lend.nil|apply Lend.keep|fail))))
 exact Fin.p rfl rfl
theorem evalidL_p (m : ModS) (l : List EvS) (h : ∀ e ∈ l, EvV m (e.past.length : Nat) e) : CallP Tryz.prog 136 [mdl m, evs l] (bl true) := by
 have hc := containsF_p (fun e => evalid1_p m e) rfl l
 rw [decide_eq_false (fun h9 => by
  obtain ⟨x, h1, h2⟩ := idxN_lt.1 h9
  exact (of_decide_eq_true h2) (h x h1))] at hc
 refine CallA.of pg ord136 Tryz.func136 rfl Tryz.ntmps136 Tryz.results136 rfl fun h0 G0 O0 => ?_
 repeat' (first|refine Sp.h ?_|refine Lk.r rfl ?_|refine Rf.mk rfl ?_|(refine All.mk ?_;intro _)|fail)
 (apply Cl.lend (hc);(focus repeat' (first|exact Lend.nil|apply Lend.keep|(apply Lend.cell;(focus repeat constructor))|refine Lend.fn ?_ ?_|fail)))
 repeat' (first|refine Sp.h ?_|refine Lk.r rfl ?_|(apply Nm.r;focus repeat constructor)|fail)
 exact Fin.p rfl rfl
theorem foldE_succ {m : ModS} {l : List EvS} {i : Nat} {e : EvS} (h : l[i]? = some e) (s : List Int) : (l.take (i + 1)).foldl (addE m) s = addE m ((l.take i).foldl (addE m) s) e := by
 rw [List.take_add_one, h, Option.toList_some, List.foldl_append];rfl
set_option maxHeartbeats 4000000 in
theorem estate_p (m : ModS) (ld : List Int) (l : List EvS) (hm : MOK m) (hl : ld.length = strF m) (h : ∀ e ∈ l, EvV m (e.past.length : Nat) e) : CallP Tryz.prog 68 [mdl m, ints ld, evs l] (.tup [ints (l.foldl (addE m) ld), it 0]) := by
 have hml := hm.lay.2.2.1
 have hstr := hm.str
 have hcl := clone_o ld (by omega)
 have hvl := evalidL_p m l h
 refine CallA.fzt (T := 3) (by rw [foldE_len];omega) ?_
 refine CallA.of pg ord68 Tryz.func68 rfl Tryz.ntmps68 Tryz.results68 rfl fun h0 G0 O0 => ?_
 repeat' (first|refine Sp.h ?_|refine Lk.r rfl ?_|refine Rf.mk rfl ?_|(refine Im.mk ?_;intro _)|(refine All.mk ?_;intro _)|(apply TkB.r;(focus repeat constructor))|fail)
 rename_i b3 _
 refine CA.loop (fun i : Nat => ⟨[(1, ints ld), (2, evs l), (3, pm b3), (8, it (strN m (m.tables.take i) : Nat)), (17, tbls m.tables), (18, it (m.tables.length : Nat)), (19, it i)], [mR b3 m]⟩) (fun i => i ≤ m.tables.length) (fun i => m.tables.length - i) 0 ⟨by repeat first|trivial|refine ⟨rfl,?_⟩,by repeat first|exact .nil|refine .cons (by repeat constructor) ?_⟩ (Nat.zero_le _) ?_
 intro i hi
 by_cases hin : i < m.tables.length
 ·obtain ⟨t, ht⟩ := get_of hin
  have hc := (hm.lay.2.2.2 t (List.mem_of_getElem? ht)).1
  have h1 := sz_fit (m := m) hc
  have hn := strN_le hm.lay i hi
  have hsu := strN_succ (m := m) ht
  have h2 := estrict_p t
  have h3 := esize_p m t hc
  by_cases hst : isStrict t.kind
  ·rw [if_pos hst] at hsu
   rw [decide_eq_true hst] at h2
   repeat' (first|refine Sp.h ?_|refine Lk.r rfl ?_|refine Rf.mk rfl ?_|(apply Bd.t;(focus first|assumption|omega|rfl))|(refine All.mk ?_;intro _)|(apply TkB.r;(focus repeat constructor))|(apply Ix.q;(focus exact rfl);(focus assumption))|refine Ch.l ⟨rfl, rfl⟩ ?_|(apply SetAsk.r;(focus (repeat (first|exact SetAs.z|(apply SetAs.c;(focus (repeat first|assumption|constructor)))))))|(apply Nm.r;focus repeat constructor)|(apply Ov.n;(focus first|omega|(simp <;> omega)))|(apply Cl.p (h2);(focus ((repeat' (first|exact Lend.nil|apply Lend.keep|fail));done)))|(apply Cl.p (h3);(focus ((repeat' (first|exact Lend.nil|apply Lend.keep|fail));done))))
   rw [show ((strN m (m.tables.take i) : Nat) : Int) + (szF m t : Nat) = (strN m (m.tables.take (i + 1)) : Nat) by omega]
   exact PA.lp (i + 1) ⟨by repeat first|trivial|refine ⟨rfl,?_⟩,by repeat first|exact .nil|refine .cons (by repeat constructor) ?_⟩ ⟨hin, by omega⟩
  ·rw [if_neg hst] at hsu
   rw [decide_eq_false hst] at h2
   repeat' (first|refine Sp.h ?_|refine Lk.r rfl ?_|refine Rf.mk rfl ?_|(apply Bd.t;(focus first|assumption|omega|rfl))|(refine All.mk ?_;intro _)|(apply TkB.r;(focus repeat constructor))|(apply Ix.q;(focus exact rfl);(focus assumption))|refine Ch.l ⟨rfl, rfl⟩ ?_|(apply SetAsk.r;(focus (repeat (first|exact SetAs.z|(apply SetAs.c;(focus (repeat first|assumption|constructor)))))))|(apply Nm.r;focus repeat constructor)|(apply Ov.n;(focus first|omega|(simp <;> omega)))|(apply Cl.p (h2);(focus ((repeat' (first|exact Lend.nil|apply Lend.keep|fail));done)))|(apply Cl.p (h3);(focus ((repeat' (first|exact Lend.nil|apply Lend.keep|fail));done))))
   rw [show strN m (m.tables.take i) = strN m (m.tables.take (i + 1)) by omega]
   exact PA.lp (i + 1) ⟨by repeat first|trivial|refine ⟨rfl,?_⟩,by repeat first|exact .nil|refine .cons (by repeat constructor) ?_⟩ ⟨hin, by omega⟩
 have hie : i = m.tables.length := by omega
 subst hie
 simp only [List.take_length]
 change CA _ _ _ [(1, ints ld), (2, evs l), (3, pm b3), (8, it (strF m : Nat)), (17, tbls m.tables), (18, it (m.tables.length : Nat)), (19, it (m.tables.length : Nat))] _
 repeat' (first|refine Sp.h ?_|refine Lk.r rfl ?_|refine Rf.mk rfl ?_|(apply Bd.t;(focus first|assumption|omega|rfl))|(apply Bd.f;(focus first|assumption|omega|exact Bool.false_ne_true))|(refine Im.mk ?_;intro _)|(apply TkB.r;(focus repeat constructor))|refine Ch.l ⟨rfl, rfl⟩ ?_|(apply Cl.p (hvl);(focus repeat' (first|exact Lend.nil|apply Lend.keep|fail))))
 (refine Cl.use (hcl) (by repeat' (first|exact Lend.nil|apply Lend.keep|fail)) .nil rfl ?_;rintro _ _ ⟨_, rfl, rfl⟩)
 repeat' (first|refine Sp.h ?_|refine Lk.r rfl ?_|refine Rf.mk rfl ?_|(refine Im.mk ?_;intro _)|fail)
 rename_i u _ 
 refine CA.loop (fun i : Nat => ⟨[(3, pm b3), (11, .ow u), (43, evs l), (44, it (l.length : Nat)), (45, it i)], [mR b3 m, arrR u 3 1 ((l.take i).foldl (addE m) ld) intC]⟩) (fun i => i ≤ l.length) (fun i => l.length - i) 0 ⟨by repeat first|trivial|refine ⟨rfl,?_⟩,by repeat first|exact .nil|refine .cons (by repeat constructor) ?_⟩ (Nat.zero_le _) ?_
 intro i hi
 by_cases hin : i < l.length
 ·obtain ⟨e, he⟩ := get_of hin
  have hev := h e (List.mem_of_getElem? he)
  have hsl : ((l.take i).foldl (addE m) ld).length = strF m := by rw [foldE_len];exact hl
  have hsu := foldE_succ (m := m) he ld
  obtain ⟨s, hs⟩ : ∃ s, s = (l.take i).foldl (addE m) ld := ⟨_, rfl⟩
  rw [← hs] at hsl hsu ⊢
  by_cases hk : e.kind = 0
  rotate_left
  ·have hadd : addE m s e = s := if_neg hk
   rw [hadd] at hsu
   repeat' (first|refine Sp.h ?_|refine Lk.r rfl ?_|refine Rf.mk rfl ?_|(apply Bd.t;(focus first|assumption|omega|rfl))|(apply Bd.f;(focus first|assumption|omega|exact Bool.false_ne_true))|(refine All.mk ?_;intro _)|(apply TkB.r;(focus repeat constructor))|(apply Ix.q;(focus exact rfl);(focus assumption))|refine Ch.l ⟨rfl, rfl⟩ ?_|(apply SetAsk.r;(focus (repeat (first|exact SetAs.z|(apply SetAs.c;(focus (repeat first|assumption|constructor)))))))|(apply Nm.r;focus repeat constructor)|(apply Ov.n;(focus first|omega|(simp <;> omega)))|fail)
   rw [← hsu]
   exact PA.lp (i + 1) ⟨by repeat first|trivial|refine ⟨rfl,?_⟩,by repeat first|exact .nil|refine .cons (by repeat constructor) ?_⟩ ⟨hin, by omega⟩
  have hact := act_rng hev.1 hk
  have hact2 := hev.2.2 hk
  obtain ⟨a, ha⟩ := get_of (l := m.acts) (i := e.action.toNat) (by omega)
  have hd := dltF_at ha
  have heo := hm.eff a (List.mem_of_getElem? ha)
  have hadd : addE m s e = addD s a.eff.delta := by rw [addE, if_pos hk, hd]
  repeat' (first|refine Sp.h ?_|refine Lk.r rfl ?_|refine Rf.mk rfl ?_|(apply Bd.t;(focus first|assumption|omega|rfl))|(refine Im.mk ?_;intro _)|(refine All.mk ?_;intro _)|(apply TkB.r;(focus repeat constructor))|(apply Ix.q;(focus exact rfl);(focus assumption))|(apply Ix.r;(focus assumption);(focus omega))|refine Ch.l ⟨rfl, rfl⟩ ?_|(apply SetAsk.r;(focus (repeat (first|exact SetAs.z|(apply SetAs.c;(focus (repeat first|assumption|constructor)))))))|(apply Nm.r;focus repeat constructor)|fail)
  refine CA.loop (fun k : Nat => ⟨[(3, pm b3), (11, .ow u), (43, evs l), (44, it (l.length : Nat)), (45, it i), (59, terms a.eff.delta), (60, it (a.eff.delta.length : Nat)), (61, it k)], [mR b3 m, arrR u 3 1 (addD s (a.eff.delta.take k)) intC]⟩) (fun k => k ≤ a.eff.delta.length) (fun k => a.eff.delta.length - k) 0 ⟨by repeat first|trivial|refine ⟨rfl,?_⟩,by repeat first|exact .nil|refine .cons (by repeat constructor) ?_⟩ (Nat.zero_le _) ?_
  intro k hk2
  have hlen := addD_length (a.eff.delta.take k) s
  by_cases hkl : k < a.eff.delta.length
  ·obtain ⟨p, hp⟩ := get_of hkl
   obtain ⟨p1, p2⟩ := heo.d p (List.mem_of_getElem? hp)
   obtain ⟨z, hz⟩ := get_of (l := addD s (a.eff.delta.take k)) (i := p.1.toNat) (by omega)
   have hsd := addD_succ (s := s) hp
   rw [show add1 (addD s (a.eff.delta.take k)) p = (addD s (a.eff.delta.take k)).set p.1.toNat (IntKind.i64.wrap (z + p.2)) by rw [add1, hz];rfl] at hsd
   repeat' (first|refine Sp.h ?_|refine Lk.r rfl ?_|refine Rf.mk rfl ?_|(apply Bd.t;(focus first|assumption|omega|rfl))|refine OpK.r rfl ?_|(refine All.mk ?_;intro _)|(apply TkA.r;(focus repeat constructor))|(apply TkB.r;(focus repeat constructor))|(apply Ix.q;(focus exact rfl);(focus assumption))|(apply Ix.r;(focus assumption);(focus omega))|(apply At.r;(focus assumption))|refine Ch.l ⟨rfl, rfl⟩ ?_|(apply SetAsk.r;(focus (repeat (first|exact SetAs.z|(apply SetAs.c;(focus (repeat first|assumption|constructor)))))))|(apply Nm.r;focus repeat constructor)|(apply CA.draw;(focus rfl);(focus kernel_rfl);(focus kernel_rfl);(focus repeat' constructor);(focus rfl))|fail)
   refine ⟨?_⟩
   repeat' (first|refine Sp.h ?_|refine Lk.r rfl ?_|refine Rf.mk rfl ?_|refine OpK.r rfl ?_|(apply TkA.r;(focus repeat constructor))|(apply Ix.r;(focus assumption);(focus omega))|(apply At.r;(focus assumption))|(apply SetAk.r;(focus (repeat first|assumption|constructor)))|refine Up.r rfl ?_|(apply Ov.n;(focus first|omega|(simp <;> omega)))|fail)
   rw [← hsd]
   exact PA.lp (k + 1) ⟨by repeat first|trivial|refine ⟨rfl,?_⟩,by repeat first|exact .nil|refine .cons (by repeat constructor) ?_⟩ ⟨hkl, by omega⟩
  ·have hke : k = a.eff.delta.length := by omega
   subst hke
   rw [List.take_length, ← hadd, ← hsu]
   repeat' (first|refine Sp.h ?_|refine Lk.r rfl ?_|refine Rf.mk rfl ?_|(apply Bd.f;(focus first|assumption|omega|exact Bool.false_ne_true))|(apply Ov.n;(focus first|omega|(simp <;> omega)))|fail)
   exact PA.lp (i + 1) ⟨by repeat first|trivial|refine ⟨rfl,?_⟩,by repeat first|exact .nil|refine .cons (by repeat constructor) ?_⟩ ⟨hin, by omega⟩
 ·have hie : i = l.length := by omega
  subst hie
  rw [List.take_length]
  repeat' (first|refine Sp.h ?_|refine Lk.r rfl ?_|refine Rf.mk rfl ?_|(apply Bd.f;(focus first|assumption|omega|exact Bool.false_ne_true))|(apply Nm.r;focus repeat constructor)|fail)
  exact ⟨_, _, .tup (.same (.same (.nil (by (repeat first|exact .nil|refine .cons (by repeat constructor) ?_))))), _, rfl, rfl⟩
end Go.Proofs.YtmllihbhphnolaaGreat
namespace Go.Proofs.YtmllihbhphnolaaGreat
open Go Go.CF
set_option maxRecDepth 20000
def fnW (p : FuncId × List AV) : AV := .fn p.1 p.2
abbrev kvsW (t : TblS) : List (List Int × (FuncId × List AV)) := [([2], (200, [ofA])), ([3], (205, [ofA])), ([4], (207, [ofA, .ad [it (iniT t)] 0])), ([5], (210, [ofA, .ad [it (iniT t)] 0]))]
set_option maxHeartbeats 1000000 in
theorem evalues_a (t : TblS) : CallA Tryz.prog 137 [.agg (tblC t)] [] fun r own => ∃ b, r = .val (.map (some b)) ∧ own = [mapR Tryz.prog b 3 (kvsW t) fnW] := by
 refine CallA.of pg ord137 Tryz.func137 rfl Tryz.ntmps137 Tryz.results137 rfl fun h0 G0 O0 => ?_
 (repeat' (first|(show CA _ _ (Code.region 2 _ _) _ _;apply Stopped.out)|refine Sp.h ?_|refine Lk.r rfl ?_|refine Rf.mk rfl ?_|(refine All.mk ?_;intro _)|(apply TkB.r;(focus repeat constructor))|(apply SetAk.r;(focus (repeat first|assumption|constructor)))|(apply Nm.r;focus repeat constructor)|fail));any_goals apply Stopped.mk
 refine CA.freezeB 3 rfl (by repeat constructor) ?_
 (repeat' (first|(show CA _ _ (Code.region 3 _ _) _ _;apply Stopped.out)|refine Sp.h ?_|refine Lk.r rfl ?_|refine Rf.mk rfl ?_|(refine All.mk ?_;intro _)|(apply TkB.r;(focus repeat constructor))|(apply SetAk.r;(focus (repeat first|assumption|constructor)))|(apply Nm.r;focus repeat constructor)|fail));any_goals apply Stopped.mk
 refine CA.freezeB 4 rfl (by repeat constructor) ?_
 repeat' (first|refine Sp.h ?_|refine Lk.r rfl ?_|refine Rf.mk rfl ?_|fail)
 refine MkM.r fnW ?_
 repeat' (first|refine Sp.h ?_|refine Lk.r rfl ?_|refine Rf.mk rfl ?_|(refine All.mk ?_;intro _)|(apply Kf.mk;(focus kernel_rfl))|(apply TkM.r;(focus repeat constructor))|fail)
 refine UpV.r (v := (200, [ofA])) rfl ?_
 repeat' (first|refine Sp.h ?_|refine Lk.r rfl ?_|refine Rf.mk rfl ?_|(apply Kf.mk;(focus kernel_rfl))|(apply TkM.r;(focus repeat constructor))|fail)
 refine UpV.r (v := (205, [ofA])) rfl ?_
 repeat' (first|refine Sp.h ?_|refine Lk.r rfl ?_|refine Rf.mk rfl ?_|(apply Kf.mk;(focus kernel_rfl))|(apply TkM.r;(focus repeat constructor))|fail)
 refine UpV.r (v := (207, [ofA, .ad [it (iniT t)] 0])) rfl ?_
 repeat' (first|refine Sp.h ?_|refine Lk.r rfl ?_|refine Rf.mk rfl ?_|(apply Kf.mk;(focus kernel_rfl))|(apply TkM.r;(focus repeat constructor))|fail)
 refine UpV.r (v := (210, [ofA, .ad [it (iniT t)] 0])) rfl ?_
 repeat' (first|refine Sp.h ?_|refine Lk.r rfl ?_|(apply Nm.r;focus repeat constructor)|fail)
 exact ⟨_, _, .one (.same (.nil (by (repeat first|exact .nil|refine .cons (by repeat constructor) ?_)))), _, rfl, rfl⟩
noncomputable def valE (t : TblS) (W : List WrS) : List Int := if t.kind = 2 then [if decide (Live0 W) = true then 1 else 0] else if t.kind = 3 then [if decide (In1 W) = true then 1 else 0] else if t.kind = 4 then [val4F (iniT t) W] else if vals5 W = [] then [iniT t] else srtD (vals5 W)
noncomputable def evlL (m : ModS) (l : List EvS) (ts : List TblS) : List (List Int) := ts.zipIdx.map fun p => valE p.1 (wrF m l p.2)
theorem evlL_len (m : ModS) (l : List EvS) (ts : List TblS) : (evlL m l ts).length = ts.length := by simp [evlL]
theorem evlL_snoc (m : ModS) (l : List EvS) (ts : List TblS) (t : TblS) : evlL m l (ts ++ [t]) = evlL m l ts ++ [valE t (wrF m l ts.length)] := by
 simp [evlL, List.zipIdx_append]
theorem kvs_look (t : TblS) (hk : Kd t) : ∃ f caps, lookL (kvsW t) [t.kind] = some (f, caps) ∧ en f = true ∧ ∀ W : List WrS, W.length ≤ 100000 → CallP Tryz.prog f (wrs W :: caps) (ints (valE t W)) := by
 rcases hk with k|k|k|k
 ·refine ⟨200, [ofA], by rw [k];rfl, rfl, fun W hW => ?_⟩
  have := vals2_p W (by omega)
  rwa [show valE t W = [if decide (Live0 W) = true then 1 else 0] by simp only [valE, k, if_true]]
 ·refine ⟨205, [ofA], by rw [k];rfl, rfl, fun W hW => ?_⟩
  have := vals3_p W (by omega)
  rwa [show valE t W = [if decide (In1 W) = true then 1 else 0] by simp [valE, k]]
 ·refine ⟨207, [ofA, .ad [it (iniT t)] 0], by rw [k];rfl, rfl, fun W hW => ?_⟩
  have := vals4_p W (iniT t) (by omega)
  rwa [show valE t W = [val4F (iniT t) W] by simp [valE, k]]
 ·refine ⟨210, [ofA, .ad [it (iniT t)] 0], by rw [k];rfl, rfl, fun W hW => ?_⟩
  have := vals5_p W (iniT t) (by omega)
  rwa [show valE t W = if vals5 W = [] then [iniT t] else srtD (vals5 W) by simp [valE, k]]
set_option maxHeartbeats 4000000 in
theorem eValues_a (m : ModS) (l : List EvS) (hm : LayOK m.sorts m.tables) (hkd : ∀ t ∈ m.tables, ¬ isStrict t.kind → Kd t) (hv : ∀ e ∈ l, EvV m (e.past.length : Nat) e) (ha : ActOK m l) (hl : l.length ≤ 1000) :
  CallA Tryz.prog 69 [mdl m, evs l] [] fun r own => ∃ v, r = .tup [.ow v, it 0] ∧ own = [arrR v 22 1 (evlL m l (mrgF m)) clkC] := by
 have k0 := evalidL_p m l hv
 have hml := hm.2.2.1
 refine CallA.of pg ord69 Tryz.func69 rfl Tryz.ntmps69 Tryz.results69 rfl fun h0 G0 O0 => ?_
 repeat' (first|refine Sp.h ?_|refine Lk.r rfl ?_|refine Rf.mk rfl ?_|(apply Bd.t;(focus first|assumption|omega|rfl))|(refine Im.mk ?_;intro _)|(refine All.mk ?_;intro _)|(apply TkB.r;(focus repeat constructor))|refine Ch.l ⟨rfl, rfl⟩ ?_|(apply Cl.p (k0);(focus repeat' (first|exact Lend.nil|apply Lend.keep|fail))))
 rename_i b2 hl9
 refine CA.nilOwn 6 22 1 clkC rfl fun v0 => ?_
 refine CA.loop (fun x : Nat × Value => ⟨[(1, evs l), (2, pm b2), (6, .ow x.2), (15, tbls m.tables), (16, it (m.tables.length : Nat)), (17, it (x.1 : Nat))], [mR b2 m, arrR x.2 22 1 (evlL m l (mrgL m (m.tables.take x.1))) clkC]⟩) (fun x => x.1 ≤ m.tables.length) (fun x => m.tables.length - x.1) (0, v0) ⟨by repeat first|trivial|refine ⟨rfl,?_⟩,by repeat first|exact .nil|refine .cons (by repeat constructor) ?_⟩ (Nat.zero_le _) ?_
 rintro ⟨i, v⟩ hi
 simp only at hi
 simp only
 by_cases hin : i < m.tables.length
 ·obtain ⟨t, ht⟩ := get_of hin
  have htm := List.mem_of_getElem? ht
  have hc := (hm.2.2.2 t htm).1
  have h1 := sz_fit (m := m) hc
  have hn := mrgL_le hm i hi
  have hsu := mrgL_succ (m := m) ht
  have k1 := estrict_p t
  by_cases hst : isStrict t.kind
  ·rw [if_pos hst, List.append_nil] at hsu
   repeat' (first|refine Sp.h ?_|refine Lk.r rfl ?_|refine Rf.mk rfl ?_|(apply Bd.t;(focus first|assumption|omega|rfl))|(refine All.mk ?_;intro _)|(apply TkB.r;(focus repeat constructor))|(apply Ix.q;(focus exact rfl);(focus assumption))|refine Ch.l ⟨rfl, rfl⟩ ?_|(apply SetAsk.r;(focus (repeat (first|exact SetAs.z|(apply SetAs.c;(focus (repeat first|assumption|constructor)))))))|(apply Nm.r;focus repeat constructor)|(apply Ov.n;(focus first|omega|(simp <;> omega)))|(apply Cl.p (k1);(focus repeat' (first|exact Lend.nil|apply Lend.keep|fail))))
   rw [← hsu]
   exact PA.lp (i + 1, v) ⟨by repeat first|trivial|refine ⟨rfl,?_⟩,by repeat first|exact .nil|refine .cons (by repeat constructor) ?_⟩ ⟨hin, by simp only;omega⟩
  ·rw [if_neg hst] at hsu
   obtain ⟨f, caps, hlk, hen, hf⟩ := kvs_look t (hkd t htm hst)
   have k2 := esize_p m t hc
   repeat' (first|refine Sp.h ?_|refine Lk.r rfl ?_|refine Rf.mk rfl ?_|(apply Bd.t;(focus first|assumption|omega|rfl))|(apply Bd.f;(focus first|assumption|omega|exact Bool.false_ne_true))|refine OpK.r rfl ?_|(refine All.mk ?_;intro _)|(apply TkB.r;(focus repeat constructor))|(apply Ix.q;(focus exact rfl);(focus assumption))|refine Ch.l ⟨rfl, rfl⟩ ?_|(apply SetAsk.r;(focus (repeat (first|exact SetAs.z|(apply SetAs.c;(focus (repeat first|assumption|constructor)))))))|(apply Nm.r;focus repeat constructor)|(apply CA.draw;(focus rfl);(focus kernel_rfl);(focus kernel_rfl);(focus repeat' constructor);(focus rfl))|(apply Cl.p (k1);(focus repeat' (first|exact Lend.nil|apply Lend.keep|fail))))
   (apply Cl.use (evalues_a t);(focus repeat' (first|exact Lend.nil|apply Lend.keep|fail));(focus (repeat (first|exact Takes.nil|(apply Takes.cons;(focus repeat constructor)))));(focus rfl))
   rintro _ _ ⟨bm, rfl, rfl⟩
   repeat' (first|refine Sp.h ?_|refine Lk.r rfl ?_|refine Rf.mk rfl ?_|refine OpK.r rfl ?_|(apply TkB.r;(focus repeat constructor))|refine Ch.l ⟨rfl, rfl⟩ ?_|(apply Kf.mk;(focus kernel_rfl))|(apply TkM.r;(focus repeat constructor))|(apply LkM.s;(focus first|assumption|rfl))|(apply Cl.p (k2);(focus repeat' (first|exact Lend.nil|apply Lend.keep|fail))))
   refine CA.loop (fun x : Nat × Value => ⟨[(1, evs l), (2, pm b2), (6, .ow x.2), (9, .fn f caps), (15, tbls m.tables), (16, it (m.tables.length : Nat)), (17, it (i : Nat)), (30, it (szF m t : Nat)), (31, it (x.1 : Nat))], [mR b2 m, arrR x.2 22 1 (evlL m l (mrgL m (m.tables.take i) ++ List.replicate x.1 t)) clkC]⟩) (fun x => x.1 ≤ szF m t) (fun x => szF m t - x.1) (0, v) ?_ (Nat.zero_le _) ?_
   ·simp only [List.replicate_zero, List.append_nil]
    exact ⟨by repeat first|trivial|refine ⟨rfl,?_⟩,by repeat first|exact .nil|refine .cons (by repeat constructor) ?_⟩
   rintro ⟨q, w⟩ hq
   simp only at hq
   simp only
   by_cases hqn : q < szF m t
   ·have hls := evlL_snoc m l (mrgL m (m.tables.take i) ++ List.replicate q t) t
    rw [List.append_assoc, show List.replicate q t ++ [t] = List.replicate (q + 1) t from List.replicate_succ'.symm] at hls
    have hlen := evlL_len m l (mrgL m (m.tables.take i) ++ List.replicate q t)
    have hlb : (evlL m l (mrgL m (m.tables.take i) ++ List.replicate q t)).length ≤ 10000 := by rw [hlen, List.length_append, List.length_replicate];omega
    rw [← hlen] at hls
    have hwl := wr_len m l (evlL m l (mrgL m (m.tables.take i) ++ List.replicate q t)).length
    have k3 : CallP Tryz.prog 138 [mdl m, evs l, it ((evlL m l (mrgL m (m.tables.take i) ++ List.replicate q t)).length : Nat)] (wrs (wrF m l (evlL m l (mrgL m (m.tables.take i) ++ List.replicate q t)).length)) := CallA.fz (T := 266) (by omega) (writes_p m l _ hl ha)
    have k4 := hf (wrF m l (evlL m l (mrgL m (m.tables.take i) ++ List.replicate q t)).length) (by omega)
    repeat' (first|refine Sp.h ?_|refine Lk.r rfl ?_|refine Rf.mk rfl ?_|(apply Bd.t;(focus first|assumption|omega|rfl))|(apply Om.mk;(focus first|omega|(simp <;> omega)))|(refine All.mk ?_;intro _)|(apply TkA.r;(focus repeat constructor))|(apply TkB.r;(focus repeat constructor))|refine Ce.r ?_|refine Ch.l ⟨rfl, rfl⟩ ?_|(apply Fk.r;(focus (repeat (first|exact FillA.nil|(apply FillA.agg;(focus rfl);(focus rfl);(focus (repeat (first|exact SetAs.z|(apply SetAs.c;(focus (repeat first|assumption|constructor)))))))|(apply FillA.one;(focus rfl);(focus infer_instance);(focus (repeat first|assumption|constructor)))))))|refine Rf.mk ⟨rfl, rfl⟩ ?_|refine Rf.mk ⟨rfl, rfl, rfl⟩ ?_|(apply Rf.mk;(focus assumption))|(apply Mp.lit;(focus repeat (first|exact MpL.nil|(apply MpL.cons;(focus rfl))|(apply MpL.inv;(focus repeat constructor);(focus infer_instance)))))|(apply Ov.n;(focus first|omega|(simp <;> omega)))|(apply Cl.p (k3);(focus repeat' (first|exact Lend.nil|apply Lend.keep|fail)))|(apply Cl.p (k4);(focus repeat' (first|exact Lend.nil|apply Lend.keep|fail))))
    ·exact Lend.all _
    rw [← hls]
    exact PA.lp (q + 1, _) ⟨by repeat first|trivial|refine ⟨rfl,?_⟩,by repeat first|exact .nil|refine .cons (by repeat constructor) ?_⟩ ⟨hqn, by simp only;omega⟩
   have hqe : q = szF m t := by omega
   subst hqe
   rw [← hsu]
   repeat' (first|refine Sp.h ?_|refine Lk.r rfl ?_|refine Rf.mk rfl ?_|(apply Bd.f;(focus first|assumption|omega|exact Bool.false_ne_true))|(apply Ov.n;(focus first|omega|(simp <;> omega)))|fail)
   exact PA.lp (i + 1, w) ⟨by repeat first|trivial|refine ⟨rfl,?_⟩,by repeat first|exact .nil|refine .cons (by repeat constructor) ?_⟩ ⟨hin, by simp only;omega⟩
 ·have hie : i = m.tables.length := by omega
  subst hie
  simp only [List.take_length]
  repeat' (first|refine Sp.h ?_|refine Lk.r rfl ?_|refine Rf.mk rfl ?_|(apply Bd.f;(focus first|assumption|omega|exact Bool.false_ne_true))|(apply Nm.r;focus repeat constructor)|fail)
  exact ⟨_, _, .one (.same (.nil (by (repeat first|exact .nil|refine .cons (by repeat constructor) ?_)))), _, rfl, rfl⟩
theorem eValues_p (m : ModS) (l : List EvS) (hm : LayOK m.sorts m.tables) (hkd : ∀ t ∈ m.tables, ¬ isStrict t.kind → Kd t) (hv : ∀ e ∈ l, EvV m (e.past.length : Nat) e) (ha : ActOK m l) (hl : l.length ≤ 1000) :
  CallP Tryz.prog 69 [mdl m, evs l] (.tup [.sl 1 (evlL m l (mrgF m)) clkC, it 0]) :=
 CallA.fzt (T := 22) (by have := mrgF_le hm;rw [evlL_len];omega) (eValues_a m l hm hkd hv ha hl)
end Go.Proofs.YtmllihbhphnolaaGreat
namespace Go.Proofs.YtmllihbhphnolaaGreat
open Go Go.CF
set_option maxRecDepth 20000
theorem cmpT_pos {a b : EvS} : 0 < cmpT a b ↔ LtT b a := by
 unfold cmpT orI LtT
 simp only [List.find?_cons, List.find?_nil]
 unfold cmpI
 by_cases h1 : a.time < b.time
 ·simp [h1];omega
 ·by_cases h2 : b.time < a.time
  ·simp [h1, h2]
  ·have h3 : a.time = b.time := by omega
   by_cases h4 : a.rep < b.rep
   ·simp [h3, h4];omega
   ·by_cases h5 : b.rep < a.rep
    ·simp [h3, h4, h5]
    ·simp [h3, h4, h5]
theorem maxW_ok : ∀ (l : List WrS) (a : WrS), maxW a l ∈ a :: l ∧ ∀ x ∈ a :: l, ¬ LtT (maxW a l).1 x.1
 | [], a => ⟨by simp [maxW], fun x hx => by
   rw [List.mem_singleton.1 hx]
   show ¬ LtT a.1 a.1
   unfold LtT;omega⟩
 | y :: l, a => by
  have hs : maxW a (y :: l) = maxW (if 0 < cmpT y.1 a.1 then y else a) l := rfl
  rw [hs]
  obtain ⟨h1, h2⟩ := maxW_ok l (if 0 < cmpT y.1 a.1 then y else a)
  generalize hm : maxW (if 0 < cmpT y.1 a.1 then y else a) l = M at *
  by_cases hc : 0 < cmpT y.1 a.1
  ·rw [if_pos hc] at h1 h2
   have hc' := cmpT_pos.1 hc
   refine ⟨List.mem_cons_of_mem _ h1, fun x hx => ?_⟩
   rcases List.mem_cons.1 hx with rfl|hx
   ·have h3 := h2 y (by simp)
    intro h4;exact h3 (by unfold LtT at *;omega)
   ·exact h2 x hx
  ·rw [if_neg hc] at h1 h2
   have hc' : ¬ LtT a.1 y.1 := fun h => hc (cmpT_pos.2 h)
   refine ⟨?_, fun x hx => ?_⟩
   ·rcases List.mem_cons.1 h1 with h1|h1
    ·rw [h1];simp
    ·simp [h1]
   ·rcases List.mem_cons.1 hx with rfl|hx
    ·exact h2 _ (by simp)
    ·rcases List.mem_cons.1 hx with rfl|hx
     ·have h3 := h2 a (by simp)
      intro h4;exact h3 (by unfold LtT at *;omega)
     ·exact h2 x (by simp [hx])
theorem ofW_mem {L : List WrS} {k : Int} {w : WrS} : w ∈ ofW L k ↔ w ∈ L ∧ w.2.1 = k := by simp [ofW]
theorem valE_d {t : TblS} (W : List WrS) : ValD t W (valE t W) := by
 refine ⟨fun k => ?_, fun k => ?_, fun k => ?_, fun k => ?_⟩
 ·simp [valE, k]
 ·simp [valE, k]
 ·have hv : valE t W = [val4F (iniT t) W] := by simp [valE, k]
  rw [hv]
  cases ho : ofW W 2 with
  | nil =>
   refine .inl ⟨fun w hw h2 => ?_, by simp only [val4F, ho]⟩
   have := ofW_mem.2 ⟨hw, h2⟩
   rw [ho] at this;cases this
  | cons a l =>
   obtain ⟨h1, h2⟩ := maxW_ok l a
   rw [← ho] at h1 h2
   obtain ⟨h3, h4⟩ := ofW_mem.1 h1
   exact .inr ⟨_, h3, h4, by simp only [val4F, ho], fun x hx hx2 => h2 x (ofW_mem.2 ⟨hx, hx2⟩)⟩
 ·simp [valE, k]
theorem evl_eq {m : ModS} {l : List EvS} {k : List MgS} (hm : LayOK m.sorts m.tables) (hc : ClosedE l) (h : KnL m l k) : valsF (mrgF m) k = evlL m l (mrgF m) := by
 apply List.ext_getElem?
 intro i
 unfold valsF evlL
 simp only [List.getElem?_map, List.getElem?_zipIdx]
 cases ht : (mrgF m)[i]? with
 | none =>
  have h9 := List.getElem?_eq_none_iff.1 ht
  simp
  omega
 | some t =>
  have hil := (List.getElem?_eq_some_iff.1 ht).1
  obtain ⟨g, hg⟩ : ∃ g, k[i]? = some g := ⟨_, List.getElem?_eq_getElem (by rw [h.len];exact hil)⟩
  have hz : ((mrgF m).zip k)[i]? = some (t, g) := by rw [List.getElem?_zip_eq_some];exact ⟨ht, hg⟩
  rw [hz]
  simp only [Option.map_some, Nat.zero_add]
  rw [valD_eq (kd_of hm ht) hc (h.kn i t g ht hg).1 (valE_d _)]
theorem kn_perm {m : ModS} {X l : List EvS} {k : List MgS} (hp : X.Perm l) (h : KnL m X k) : KnL m l k := by
 have hmem : ∀ e : EvS, e ∈ X ↔ e ∈ l := fun e => hp.mem_iff
 refine ⟨h.len, fun i t g ht hg => ?_⟩
 obtain ⟨k, n⟩ := h.kn i t g ht hg
 refine ⟨⟨by simpa only [PutP, hmem] using k.put, k.drop, k.srt, fun h4 => by have := k.four h4;simpa only [Kn4, Asg, hmem] using this, fun h4 x => by have := k.liv h4 x;simpa only [Liv, hmem] using this⟩, by rw [← hp.length_eq];exact n⟩
theorem plL_snoc {l : List EvS} {i : Nat} {e : EvS} (he : l[i]? = some e) : plL (l.take (i + 1)) = plL (l.take i) ++ if 0 < e.place then [e.place] else [] := by
 unfold plL
 rw [List.take_add_one, he, List.filter_append, List.map_append]
 by_cases h : 0 < e.place <;> simp [h]
theorem tim_snoc {l : List EvS} {i : Nat} {e : EvS} (he : l[i]? = some e) : (l.take (i + 1)).foldl (fun t e => max t e.time) 0 = max ((l.take i).foldl (fun t e => max t e.time) (0 : Int)) e.time := by
 rw [List.take_add_one, he, List.foldl_append];rfl
set_option maxHeartbeats 8000000 in
theorem definition35_p (m : ModS) (ld : List Int) (l : List EvS) (order : List Int) (ho : ∀ x ∈ order, 0 ≤ x ∧ x ≤ 255) : CallP Tryz.prog 9 [mdl m, ints ld, evs l, u8s order] (bl true) := by
 have haw := awake35_p
 have hsu := suits35_c m ld l
 refine CallA.of pg ord9 Tryz.func9 rfl Tryz.ntmps9 Tryz.results9 rfl fun h0 G0 O0 => ?_
 repeat' (first|refine Sp.h ?_|refine Lk.r rfl ?_|refine Rf.mk rfl ?_|(apply Bd.t;(focus first|assumption|omega|rfl))|(refine All.mk ?_;intro _)|(apply TkB.r;(focus repeat constructor))|refine Ch.l ⟨rfl, rfl⟩ ?_|(apply Cl.p (haw);(focus repeat' (first|exact Lend.nil|fail))))
 rename_i b4
 (apply Cl.use (hsu);(focus repeat' (first|exact Lend.nil|apply Lend.keep|fail));(focus (repeat (first|exact Takes.nil|(apply Takes.cons;(focus repeat constructor)))));(focus rfl))
 rintro _ _ ⟨s, rfl, rfl, hs⟩
 cases s
 ·repeat' (first|refine Sp.h ?_|refine Lk.r rfl ?_|refine Rf.mk rfl ?_|(apply Bd.f;(focus first|assumption|omega|exact Bool.false_ne_true))|(apply Nm.r;focus repeat constructor)|fail)
  exact Fin.p rfl rfl
 have hs := hs rfl
 by_cases h60 : 60 < order.length
 ·repeat' (first|refine Sp.h ?_|refine Lk.r rfl ?_|refine Rf.mk rfl ?_|(apply Bd.t;(focus first|assumption|omega|rfl))|(refine Im.mk ?_;intro _)|(apply Nm.r;focus repeat constructor)|fail)
  exact Fin.p rfl rfl
 obtain ⟨d, hd⟩ := get_of (l := l) (i := 0) hs.ne
 have hn0 : n0 l = d.past.length := by rw [n0, hd];rfl
 have hc := hs.e.2.2.1
 have hl60 := hs.e.2.1.1
 have hnr := n0_rng hc (List.mem_of_getElem? hd)
 have hevv := hs.e.2.2.2.2
 have hevp : ∀ e ∈ l, EvV m (e.past.length : Nat) e := fun e he => by
  have := hevv e he
  have h2 := this.2.1
  rw [← h2] at this
  exact this
 have hact : ActOK m l := fun e he hk => by
  have h1 := hevv e he
  exact ⟨act_rng h1.1 hk, h1.2.2 hk⟩
 obtain ⟨X, x1, x2, x3⟩ := ext_ok (order := order) hc fun x hx => (ho x hx).1
 have hXl := x3.length_eq
 have hfi := fill_a m ld l order X hs ho x1 x2 x3
 obtain ⟨W, hW⟩ : ∃ W, W = stN m (n0 l) ld X := ⟨_, rfl⟩
 have hwo : NowOK m W := by rw [hW];exact stN_ok hs x2.sub (by omega)
 have hst : StoA m l ld X W := by
  have := (fill_sto hs (by omega) x2 X.length (Nat.le_refl _)).1
  rwa [List.take_length, ← hW] at this
 rw [← hW] at hfi
 repeat' (first|refine Sp.h ?_|refine Lk.r rfl ?_|refine Rf.mk rfl ?_|(apply Bd.t;(focus first|assumption|omega|rfl))|(apply Bd.f;(focus first|assumption|omega|exact Bool.false_ne_true))|(refine Im.mk ?_;intro _)|(apply TkB.r;(focus repeat constructor))|refine Ch.l ⟨rfl, rfl⟩ ?_|fail)
 (apply Cl.use (hfi);(focus repeat' (first|exact Lend.nil|apply Lend.keep|fail));(focus (repeat (first|exact Takes.nil|(apply Takes.cons;(focus repeat constructor)))));(focus rfl))
 rintro _ _ ⟨p, v, rfl, rfl⟩
 have hlay := hs.e.1.lay
 have hkd : ∀ t ∈ m.tables, ¬ isStrict t.kind → Kd t := fun t ht hns => by
  have := (hlay.2.2.2 t ht).2
  unfold isStrict at hns
  unfold Kd
  omega
 have hk := clock_z (n := n0 l) (l := l) hnr hc fun e he => (hc.2.2.1 e he).2
 have hes := estate_p m ld l hs.e.1 hs.ln hevp
 have hva := eValues_p m l hlay hkd hevp hact (by omega)
 rw [hn0] at hk
 repeat' (first|refine Sp.h ?_|refine Lk.r rfl ?_|refine Rf.mk rfl ?_|(apply Bd.f;(focus first|assumption|omega|exact Bool.false_ne_true))|(refine Im.mk ?_;intro _)|(apply TkB.r;(focus repeat constructor))|(apply Ix.q;(focus exact rfl);(focus assumption))|refine Ch.l ⟨rfl, rfl⟩ ?_|(apply Cl.p (hk);(focus ((repeat' (first|exact Lend.nil|apply Lend.keep|fail));done)))|(apply Cl.p (hes);(focus ((repeat' (first|exact Lend.nil|apply Lend.keep|fail));done)))|(apply Cl.p (hva);(focus ((repeat' (first|exact Lend.nil|apply Lend.keep|fail));done))))
 refine CA.nilOwn 17 3 1 i1 rfl fun v1 => ?_
 refine CA.loop (fun x : Nat × Value => ⟨[(2, evs l), (9, pm p), (10, ints (clkE d.past.length l)), (11, it 0), (12, ints (l.foldl (addE m) ld)), (13, it 0), (14, clks (evlL m l (mrgF m))), (15, it 0), (16, it ((l.take x.1).foldl (fun t e => max t e.time) 0)), (17, .ow x.2), (62, evs l), (63, it (l.length : Nat)), (64, it (x.1 : Nat))],
  [arrR x.2 3 1 (plL (l.take x.1)) i1, stoR p m (stN m (n0 l) ld []) v W, arrR v 37 13 X evC]⟩) (fun x => x.1 ≤ l.length) (fun x => l.length - x.1) (0, v1) ⟨by repeat first|trivial|refine ⟨rfl,?_⟩,by repeat first|exact .nil|refine .cons (by repeat constructor) ?_⟩ (Nat.zero_le _) ?_
 rintro ⟨i, u⟩ hi
 simp only at hi
 simp only
 by_cases hin : i < l.length
 ·obtain ⟨e, he⟩ := get_of hin
  have hs1 := plL_snoc he
  have hs2 := tim_snoc he
  have hpl := plL_len (l.take i)
  have hpl2 : (l.take i).length ≤ l.length := List.length_take_le' _ _
  by_cases hp : 0 < e.place
  ·rw [if_pos hp] at hs1
   repeat' (first|refine Sp.h ?_|refine Lk.r rfl ?_|refine Rf.mk rfl ?_|(apply Bd.t;(focus first|assumption|omega|rfl))|(apply Om.mk;(focus first|omega|(simp <;> omega)))|(refine All.mk ?_;intro _)|(apply TkA.r;(focus repeat constructor))|(apply TkB.r;(focus repeat constructor))|(apply Ix.q;(focus exact rfl);(focus assumption))|refine Ce.r ?_|refine Ch.l ⟨rfl, rfl⟩ ?_|(apply SetAsk.r;(focus (repeat (first|exact SetAs.z|(apply SetAs.c;(focus (repeat first|assumption|constructor)))))))|(apply Fk.r;(focus (repeat (first|exact FillA.nil|(apply FillA.agg;(focus rfl);(focus rfl);(focus (repeat (first|exact SetAs.z|(apply SetAs.c;(focus (repeat first|assumption|constructor)))))))|(apply FillA.one;(focus rfl);(focus infer_instance);(focus (repeat first|assumption|constructor)))))))|(apply Nm.r;focus repeat constructor)|refine Rf.mk ⟨rfl, rfl⟩ ?_|refine Rf.mk ⟨rfl, rfl, rfl⟩ ?_|(apply Mp.lit;(focus repeat (first|exact MpL.nil|(apply MpL.cons;(focus rfl))|(apply MpL.inv;(focus repeat constructor);(focus infer_instance)))))|(apply Ov.n;(focus first|omega|(simp <;> omega)))|fail)
   rw [← hs1, ← hs2]
   exact PA.lp (i + 1, _) ⟨by repeat first|trivial|refine ⟨rfl,?_⟩,by repeat first|exact .nil|refine .cons (by repeat constructor) ?_⟩ ⟨hin, by simp only;omega⟩
  ·rw [if_neg hp, List.append_nil] at hs1
   repeat' (first|refine Sp.h ?_|refine Lk.r rfl ?_|refine Rf.mk rfl ?_|(apply Bd.t;(focus first|assumption|omega|rfl))|(apply Bd.f;(focus first|assumption|omega|exact Bool.false_ne_true))|(refine All.mk ?_;intro _)|(apply TkB.r;(focus repeat constructor))|(apply Ix.q;(focus exact rfl);(focus assumption))|refine Ch.l ⟨rfl, rfl⟩ ?_|(apply SetAsk.r;(focus (repeat (first|exact SetAs.z|(apply SetAs.c;(focus (repeat first|assumption|constructor)))))))|(apply Nm.r;focus repeat constructor)|(apply Ov.n;(focus first|omega|(simp <;> omega)))|fail)
   rw [← hs1, ← hs2]
   exact PA.lp (i + 1, u) ⟨by repeat first|trivial|refine ⟨rfl,?_⟩,by repeat first|exact .nil|refine .cons (by repeat constructor) ?_⟩ ⟨hin, by simp only;omega⟩
 ·have hie : i = l.length := by omega
  subst hie
  simp only [List.take_length]
  have hpl := plL_len l
  have hso := sortInt_a u 3 (plL l) (by omega)
  have hco := compactI_a u (srtI (plL l)) (by rw [srtI_len];omega)
  have e1 : W.clock = clkE d.past.length l := by rw [hst.clock, clkE_perm x3, hn0]
  have e2 : W.state = l.foldl (addE m) ld := by rw [hst.state, state_perm x3]
  have e3 : (valuesQ m W.merged).2 = evlL m l (mrgF m) := by
   have hvl : ValL (mrgF m) W.merged := hst.merged.valL hlay hs.e.2.2.2.1 (uniqP_sub (uniqP_of hc.2.1) x2.sub) (fun e he => (hc.2.2.1 e (x3.mem_iff.1 he)).1) (by omega)
   rw [valuesQ_ok hvl]
   exact evl_eq hlay hc (kn_perm x3 hst.merged)
  have hdl : (dd (srtI (plL l))).length ≤ 100000 := by
   have h9 : (srtD (plL l)).length ≤ (plL l).length := srtD_len _
   exact Nat.le_trans h9 (by omega)
  have e4 : W.time = l.foldl (fun t e => max t e.time) 0 := by rw [hst.time, time_perm x3]
  have e5 : W.places = srtD (plL l) := by
   rw [hst.places, places_srt]
   have hpp : (plL X).Perm (plL l) := (x3.filter _).map _
   exact srtD_set fun x => hpp.mem_iff
  have hcl' : W.clock.length ≤ 5 := hwo.clk.2.2
  have hstr := hs.e.1.str
  have s1 := sclock_z m (stN m (n0 l) ld []) W X (by omega)
  have s2 := sstate_z m (stN m (n0 l) ld []) W X (by rw [hwo.st];omega)
  have s3 := svalues_r m (stN m (n0 l) ld []) W X hs.e.1
  have s4 := stime_r m (stN m (n0 l) ld []) W X
  have s5 := splaces_z m (stN m (n0 l) ld []) W X hwo.pll
  have s6 := sevents_z m (stN m (n0 l) ld []) W X (by omega) (fun e he => by have := (hc.2.2.1 e (x3.mem_iff.1 he)).2;omega)
  have q1 := equal_p W.clock (clkE d.past.length l)
  have q2 := equal_p W.state (l.foldl (addE m) ld)
  have q3 := listsQ_p (valuesQ m W.merged).2 (evlL m l (mrgF m))
  have q4 := equal_p W.places (srtD (plL l))
  rw [decide_eq_true e1] at q1
  rw [decide_eq_true e2] at q2
  rw [decide_eq_true e3] at q3
  rw [decide_eq_true e5] at q4
  repeat' (first|refine Sp.h ?_|refine Lk.r rfl ?_|refine Rf.mk rfl ?_|(apply Bd.f;(focus first|assumption|omega|exact Bool.false_ne_true))|fail)
  (apply Cl.use (hso);(focus repeat' (first|exact Lend.nil|apply Lend.keep|fail));(focus (repeat (first|exact Takes.nil|(apply Takes.cons;(focus repeat constructor)))));(focus rfl))
  rintro _ _ ⟨rfl, rfl⟩
  (repeat' (first|(show CA _ _ (Code.region 21 _ _) _ _;apply Stopped.out)|refine Sp.h ?_|fail));any_goals apply Stopped.mk
  (apply CA.own;(focus (apply OX.blk (b := p);(focus repeat constructor);(focus (repeat' (first|exact FX.nil|(apply FX.s1;(focus repeat constructor);(focus first|omega|(simp;done)|(simp;omega)))|apply FX.k)));(focus repeat constructor))))
  apply CA.freezeB 9
  focus rfl
  focus (repeat constructor)
  repeat' (first|refine Sp.h ?_|refine Lk.r rfl ?_|refine Rf.mk rfl ?_|(apply Bd.t;(focus first|assumption|omega|rfl))|(apply Cl.p (s1);(focus ((repeat' (first|exact Lend.nil|apply Lend.keep|fail));done)))|(apply Cl.p (s2);(focus ((repeat' (first|exact Lend.nil|apply Lend.keep|fail));done)))|(apply Cl.p (s3);(focus ((repeat' (first|exact Lend.nil|apply Lend.keep|fail));done)))|(apply Cl.p (s4);(focus ((repeat' (first|exact Lend.nil|apply Lend.keep|fail));done)))|(apply Cl.p (s5);(focus ((repeat' (first|exact Lend.nil|apply Lend.keep|fail));done)))|(apply Cl.p (q1);(focus ((repeat' (first|exact Lend.nil|apply Lend.keep|fail));done)))|(apply Cl.p (q2);(focus ((repeat' (first|exact Lend.nil|apply Lend.keep|fail));done)))|(apply Cl.p (q3);(focus ((repeat' (first|exact Lend.nil|apply Lend.keep|fail));done))))
  (apply Cl.use (hco);(focus repeat' (first|exact Lend.nil|apply Lend.keep|fail));(focus (repeat (first|exact Takes.nil|(apply Takes.cons;(focus repeat constructor)))));(focus rfl))
  rintro _ _ ⟨w2, rfl, rfl⟩
  repeat' (first|refine Sp.h ?_|refine Lk.r rfl ?_|refine Rf.mk rfl ?_|(apply Bd.t;(focus first|assumption|omega|rfl))|fail)
  (apply Cl.lend (q4);(focus repeat' (first|exact Lend.nil|apply Lend.keep|(apply Lend.lendm;(focus repeat constructor);(focus rfl);(focus first|omega|decide|(simp;omega)|exact Nat.le_of_ble_eq_true rfl))|fail)))
  repeat' (first|refine Sp.h ?_|refine Lk.r rfl ?_|refine Rf.mk rfl ?_|(apply Bd.t;(focus first|assumption|omega|rfl))|(refine Im.mk ?_;intro _)|(apply Nm.r;focus repeat constructor)|(apply Cl.p (s6);(focus ((repeat' (first|exact Lend.nil|apply Lend.keep|fail));done))))
  exact Fin.p rfl (vb (decide_eq_true (by rw [hXl])))
end Go.Proofs.YtmllihbhphnolaaGreat
