/- Part 14 of the ground of this proof: what its texts say of the model, the program and the plain data; conditions: those that are named. -/
import Derived.Test.YtajenkpjcbaadaaGreatD13
namespace Go.Proofs.YtajenkpjcbaadaaGreat
open Go Go.CF
set_option maxRecDepth 20000
def cmpT (a b : EvS) : Int := orI [cmpI a.time b.time, cmpI a.rep b.rep]
theorem cmpT_p (a b : WrS) : CallP Tryz.prog 120 [evW' a, evW' b] (it (cmpT a.1 b.1)) := by
 obtain ⟨e, u1, u2, u3⟩ := a
 obtain ⟨f, v1, v2, v3⟩ := b
 have g1 := compareI_p e.time f.time
 have g2 := compareI_p e.rep f.rep
 have h := orI_p [cmpI e.time f.time, cmpI e.rep f.rep]
 refine CallA.of pg ord120 Tryz.func120 rfl Tryz.ntmps120 Tryz.results120 rfl fun h0 G0 O0 => ?_
 repeat' (first|refine Sp.h ?_|refine Lk.r rfl ?_|refine Rf.mk rfl ?_|refine OpK.r rfl ?_|refine All.mk fun _=>?_|refine xT ?_|(apply Fk.r;focus repeat' first|infer_instance|constructor)|refine Rf.mk ⟨rfl, rfl, rfl⟩ ?_|refine xD ?_|(apply Cl.p (g1);focus (repeat' constructor);done)|(apply Cl.p (g2);focus (repeat' constructor);done))
 (apply Cl.lend (h);(focus repeat' (first|exact Lend.nil|(apply Lend.lendm;(focus repeat constructor);(focus rfl);(focus first|omega|decide|(simp;omega)|exact Nat.le_of_ble_eq_true rfl))|fail)))
 repeat' (first|refine Sp.h ?_|refine Lk.r rfl ?_|refine OpK.r rfl ?_|refine xN ?_|fail)
 exact Fin.p rfl rfl
def maxW (a : WrS) (l : List WrS) : WrS := l.foldl (fun m x => if 0 < cmpT x.1 m.1 then x else m) a
abbrev zW : List AV := [it 0, it 0, it 0, .val (.slice none 0 0), it 0, it 0, it 0, it 0, it 0, it 0, it 0, it 0, it 0, it 0, it 0, it 0]
set_option maxHeartbeats 2000000 in
theorem max_p (L : List WrS) (a : WrS) (h0 : L[0]? = some a) : CallP Tryz.prog 119 [wrs L, .fn 120 []] (evW' (maxW a (L.drop 1))) := by
 have hlen := (List.getElem?_eq_some_iff.1 h0).1
 refine CallA.of pg ord119 Tryz.func119 rfl Tryz.ntmps119 Tryz.results119 rfl fun h0 G0 O0 => ?_
 repeat' (first|refine Sp.h ?_|refine Lk.r rfl ?_|refine Rf.mk rfl ?_|refine xB ?_|refine Im.mk fun _=>?_|refine All.mk fun _=>?_|refine xT ?_|refine xI ?_|refine Ch.l ⟨rfl, rfl⟩ ?_|(apply SetAsk.r;focus repeat' constructor)|refine xN ?_|fail)
 rename_i b4 hl9 b5
 refine CA.loop (fun x : Nat × WrS => ⟨[(0, wrs L), (1, .fn 120 []), (4, pm b4), (5, pm b5), (6, it (x.1 : Nat))], [blkR b5 177 (wrC x.2), blkR b4 177 zW]⟩)
  (fun x => 1 ≤ x.1 ∧ x.1 ≤ L.length ∧ x.2 = maxW a ((L.take x.1).drop 1)) (fun x => L.length - x.1) (1, a) xE ⟨Nat.le_refl _, hlen, ?_⟩ ?_
 ·have : ((L.take 1).drop 1) = [] := by simp
  show a = _
  rw [this];rfl
 rintro ⟨i, w⟩ ⟨hi1, hi, hw⟩
 simp only at hi1 hi hw
 by_cases hin : i < L.length
 ·obtain ⟨x, hx⟩ := get_of hin
  have hc := cmpT_p x w
  have hs : maxW a ((L.take (i + 1)).drop 1) = if 0 < cmpT x.1 w.1 then x else w := by
   rw [List.take_add_one, hx, List.drop_append_of_le_length (by simp;omega)]
   simp only [maxW, Option.toList_some, List.foldl_append, List.foldl_cons, List.foldl_nil] at hw ⊢
   rw [← hw]
  repeat' (first|refine Sp.h ?_|refine Lk.r rfl ?_|refine Rf.mk rfl ?_|refine xA ?_|(refine Bd.mk ?_ ?_ <;> intro _)|refine OpK.r rfl ?_|refine Im.mk fun _=>?_|refine xT ?_|refine xI ?_|refine Ch.l ⟨rfl, rfl⟩ ?_|(apply SetAsk.r;focus repeat' constructor)|refine xD ?_|refine xO ?_|(apply Cl.p (hc);focus (repeat' constructor);done))
  ·rename_i h9
   rw [if_pos h9] at hs
   exact PA.lp (i + 1, x) xE ⟨⟨by simp only;omega, hin, hs.symm⟩, by simp only;omega⟩
  ·rename_i h9
   rw [if_neg h9] at hs
   exact PA.lp (i + 1, w) xE ⟨⟨by simp only;omega, hin, hs.symm⟩, by simp only;omega⟩
 ·have hie : i = L.length := by omega
  subst hie
  rw [List.take_length] at hw
  subst hw
  repeat' (first|refine Sp.h ?_|refine Lk.r rfl ?_|refine Rf.mk rfl ?_|refine xB ?_|refine Im.mk fun _=>?_|refine xT ?_|refine Ch.l ⟨rfl, rfl⟩ ?_|(apply SetAsk.r;focus repeat' constructor)|refine xN ?_|fail)
  exact Fin.p rfl rfl
theorem live1_p (L : List WrS) (w : WrS) : CallP Tryz.prog 114 [evW' w, .ad [wrs L] 0] (bl (!decide (SeenW w.1 L 1))) := by
 have h := seen_p w L 1
 refine CallA.of pg ord114 Tryz.func114 rfl Tryz.ntmps114 Tryz.results114 rfl fun h0 G0 O0 => ?_
 repeat' (first|refine Sp.h ?_|refine Lk.r rfl ?_|refine Rf.mk rfl ?_|refine All.mk fun _=>?_|refine xT ?_|refine Ch.l ⟨rfl, rfl⟩ ?_|refine xN ?_|(apply Cl.p (h);focus repeat' constructor))
 exact Fin.p rfl (vb (by simp))
theorem live0_p (L : List WrS) (w : WrS) : CallP Tryz.prog 117 [evW' w, .ad [wrs L] 0] (bl (!decide (SeenW w.1 L 0))) := by
 have h := seen_p w L 0
 refine CallA.of pg ord117 Tryz.func117 rfl Tryz.ntmps117 Tryz.results117 rfl fun h0 G0 O0 => ?_
 repeat' (first|refine Sp.h ?_|refine Lk.r rfl ?_|refine Rf.mk rfl ?_|refine All.mk fun _=>?_|refine xT ?_|refine Ch.l ⟨rfl, rfl⟩ ?_|refine xN ?_|(apply Cl.p (h);focus repeat' constructor))
 exact Fin.p rfl (vb (by simp))
abbrev ofA : AV := .ad [.fn 107 []] 0
theorem vals2_p (L : List WrS) (hl : L.length ≤ 1000000) : CallP Tryz.prog 111 [wrs L, ofA] (ints [if decide (Live0 L) = true then 1 else 0]) := by
 have h1 := of_p L 0 hl
 have h2 : CallP Tryz.prog 113 [wrs (ofW L 0), .fn 114 [.ad [wrs L] 0]] (bl (decide (Live0 L))) := by
  have h := containsW_p (live1_p L) rfl (ofW L 0)
  rwa [show decide (idxN (fun w => !decide (SeenW w.1 L 1)) (ofW L 0) < (ofW L 0).length) = decide (Live0 L) from decide_eq_decide.2 (by rw [idxN_lt];simp [Live0, ofW, and_assoc])] at h
 have h3 := ebit_p (decide (Live0 L))
 refine CallA.of pg ord111 Tryz.func111 rfl Tryz.ntmps111 Tryz.results111 rfl fun h0 G0 O0 => ?_
 (repeat' (first|(show CA _ _ (Code.region 1 _ _) _ _;apply Stopped.out)|refine Sp.h ?_|refine Lk.r rfl ?_|refine Rf.mk rfl ?_|refine All.mk fun _=>?_|fail));any_goals apply Stopped.mk
 refine CA.freezeB 2 rfl (by repeat constructor) ?_
 repeat' (first|refine Sp.h ?_|refine Lk.r rfl ?_|refine Rf.mk rfl ?_|refine xN ?_|(apply Cl.p (h1);focus (repeat' constructor);done)|(apply Cl.p (h2);focus (repeat' constructor);done)|(apply Cl.p (h3);focus (repeat' constructor);done))
 exact Fin.p rfl rfl
theorem vals3_p (L : List WrS) (hl : L.length ≤ 1000000) : CallP Tryz.prog 116 [wrs L, ofA] (ints [if decide (In1 L) = true then 1 else 0]) := by
 have k0 := of_p L 0 hl
 have k1 := of_p L 1 hl
 have k2 := containsW_p (live0_p L) rfl (ofW L 1)
 have e0 : (0 < (ofW L 0).length) ↔ ∃ w ∈ L, w.2.1 = 0 := by rw [List.length_pos_iff_exists_mem];simp [ofW]
 have e1 : idxN (fun w => !decide (SeenW w.1 L 0)) (ofW L 1) < (ofW L 1).length ↔ ∃ w ∈ L, w.2.1 = 1 ∧ ¬ SeenW w.1 L 0 := by rw [idxN_lt];simp [ofW, and_assoc]
 have k3 := ebit_p (decide (In1 L))
 by_cases hp : 0 < (ofW L 0).length
 ·rw [show decide (In1 L) = decide (¬ idxN (fun w => !decide (SeenW w.1 L 0)) (ofW L 1) < (ofW L 1).length) by
   exact decide_eq_decide.2 (by rw [e1];exact ⟨fun h => h.2, fun h => ⟨e0.1 hp, h⟩⟩)] at k3 ⊢
  refine CallA.of pg ord116 Tryz.func116 rfl Tryz.ntmps116 Tryz.results116 rfl fun h0 G0 O0 => ?_
  (repeat' (first|(show CA _ _ (Code.region 1 _ _) _ _;apply Stopped.out)|refine Sp.h ?_|refine Lk.r rfl ?_|refine Rf.mk rfl ?_|refine All.mk fun _=>?_|fail));any_goals apply Stopped.mk
  refine CA.freezeB 2 rfl (by repeat constructor) ?_
  repeat' (first|refine Sp.h ?_|refine Lk.r rfl ?_|refine Rf.mk rfl ?_|refine xA ?_|refine Im.mk fun _=>?_|refine xN ?_|(apply Cl.p (k0);focus (repeat' constructor);done)|(apply Cl.p (k1);focus (repeat' constructor);done)|(apply Cl.p (k2);focus (repeat' constructor);done)|(apply Cl.p (k3);focus (repeat' constructor);done))
  all_goals exact Fin.p rfl rfl
 ·rw [show decide (In1 L) = false from decide_eq_false fun h => hp (e0.2 h.1)] at k3 ⊢
  refine CallA.of pg ord116 Tryz.func116 rfl Tryz.ntmps116 Tryz.results116 rfl fun h0 G0 O0 => ?_
  (repeat' (first|(show CA _ _ (Code.region 1 _ _) _ _;apply Stopped.out)|refine Sp.h ?_|refine Lk.r rfl ?_|refine Rf.mk rfl ?_|refine All.mk fun _=>?_|fail));any_goals apply Stopped.mk
  refine CA.freezeB 2 rfl (by repeat constructor) ?_
  repeat' (first|refine Sp.h ?_|refine Lk.r rfl ?_|refine Rf.mk rfl ?_|refine xB ?_|refine Im.mk fun _=>?_|refine xN ?_|(apply Cl.p (k0);focus (repeat' constructor);done)|(apply Cl.p (k1);focus (repeat' constructor);done)|(apply Cl.p (k2);focus (repeat' constructor);done)|(apply Cl.p (k3);focus (repeat' constructor);done))
  all_goals exact Fin.p rfl rfl
def val4F (x : Int) (L : List WrS) : Int := match ofW L 2 with
 | [] => x
 | a :: l => (maxW a l).2.2.2
abbrev OneO (y : Int) : AV → List Res → Prop := fun r own => ∃ v, r = .ow v ∧ own = [arrR v 3 1 [[it y]] id]
theorem oneO_p {f : FuncId} {xs : List AV} {y : Int} (h : CallA Tryz.prog f xs [] (OneO y)) : CallP Tryz.prog f xs (ints [y]) :=
 CallA.fx h fun _ _ ⟨_, e1, e2⟩ => by
  subst e1;subst e2
  exact .sl .here (Nat.le_of_ble_eq_true rfl) (.agg (.le (ALe.refl _) .nil) .nil) .nil
theorem vals4_p (L : List WrS) (x : Int) (hl : L.length ≤ 1000000) : CallP Tryz.prog 118 [wrs L, ofA, .ad [it x] 0] (ints [val4F x L]) := by
 have k0 := of_p L 2 hl
 refine oneO_p ?_
 cases ho : ofW L 2 with
 | nil =>
  rw [ho] at k0
  have hv : val4F x L = x := by simp only [val4F, ho]
  rw [hv]
  have hz : (([] : List WrS).length : Int) = 0 := rfl
  refine CallA.of pg ord118 Tryz.func118 rfl Tryz.ntmps118 Tryz.results118 rfl fun h0 G0 O0 => ?_
  repeat' (first|refine Sp.h ?_|refine Lk.r rfl ?_|refine Rf.mk rfl ?_|refine xA ?_|refine Im.mk fun _=>?_|refine All.mk fun _=>?_|(apply Fk.r;focus repeat' first|infer_instance|constructor)|refine xN ?_|refine Rf.mk ⟨rfl, rfl, rfl⟩ ?_|(apply Cl.p (k0);focus (repeat' constructor);done))
  exact ⟨_, _, .one (.same (.z)), _, rfl, rfl⟩
 | cons a l =>
  rw [ho] at k0
  have hv : val4F x L = (maxW a l).2.2.2 := by simp only [val4F, ho]
  have k1 : CallP Tryz.prog 119 [wrs (a :: l), .fn 120 []] (evW' (maxW a l)) := max_p (a :: l) a rfl
  rw [hv]
  have hz : ¬ ((a :: l).length : Int) = 0 := by simp;omega
  refine CallA.of pg ord118 Tryz.func118 rfl Tryz.ntmps118 Tryz.results118 rfl fun h0 G0 O0 => ?_
  repeat' (first|refine Sp.h ?_|refine Lk.r rfl ?_|refine Rf.mk rfl ?_|refine xB ?_|refine Im.mk fun _=>?_|refine All.mk fun _=>?_|refine xT ?_|(apply SetAsk.r;focus repeat' constructor)|(apply Fk.r;focus repeat' first|infer_instance|constructor)|refine xN ?_|refine Rf.mk ⟨rfl, rfl, rfl⟩ ?_|(apply Cl.p (k0);focus (repeat' constructor);done)|(apply Cl.p (k1);focus (repeat' constructor);done))
  exact ⟨_, _, .one (.same (.z)), _, rfl, rfl⟩
set_option maxHeartbeats 2000000 in
theorem vals5_p (L : List WrS) (x : Int) (hl : L.length ≤ 100000) : CallP Tryz.prog 121 [wrs L, ofA, .ad [it x] 0] (ints (if vals5 L = [] then [x] else srtD (vals5 L))) := by
 have k0 := of_p L 2 (by omega)
 have hof : (ofW L 2).length ≤ L.length := List.length_filter_le _ _
 have e5 : vals5 L = ((ofW L 2).filter fun w => !decide (SeenW w.1 L 2)).map (·.2.2.2) := by
  unfold vals5 ofW
  rw [List.filter_filter]
  congr 2
  funext w
  simp [Bool.and_comm]
 have hle : (vals5 L).length ≤ L.length := by rw [vals5, List.length_map];exact List.length_filter_le _ _
 have hle2 := srtD_len (vals5 L)
 have hlr : (if vals5 L = [] then [x] else srtD (vals5 L)).length ≤ 9223372036854775807 := by
  split
  ·simp
  ·omega
 refine CallA.fz (T := 3) hlr ?_
 refine CallA.of pg ord121 Tryz.func121 rfl Tryz.ntmps121 Tryz.results121 rfl fun h0 G0 O0 => ?_
 repeat' (first|refine Sp.h ?_|refine Lk.r rfl ?_|refine Rf.mk rfl ?_|refine Im.mk fun _=>?_|(apply Cl.p (k0);focus (repeat' constructor);done))
 refine CA.nilOwn 5 3 1 i1 rfl fun v0 => ?_
 refine CA.loop (fun x' : Nat × Value => ⟨[(0, wrs L), (2, .ad [it x] 0), (5, .ow x'.2), (10, wrs (ofW L 2)), (11, it ((ofW L 2).length : Nat)), (12, it (x'.1 : Nat))], [arrR x'.2 3 1 ((((ofW L 2).take x'.1).filter fun w => !decide (SeenW w.1 L 2)).map (·.2.2.2)) i1]⟩)
  (fun x' => x'.1 ≤ (ofW L 2).length) (fun x' => (ofW L 2).length - x'.1) (0, v0) xE (Nat.zero_le _) ?_
 rintro ⟨i, v⟩ hi
 simp only at hi
 simp only
 by_cases hin : i < (ofW L 2).length
 ·obtain ⟨w, hw⟩ := get_of hin
  have k1 := seen_p w L 2
  have hs := filter_succ (p := fun w : WrS => !decide (SeenW w.1 L 2)) hw
  have hln : (((ofW L 2).take i).filter fun w => !decide (SeenW w.1 L 2)).length ≤ 100000 := Nat.le_trans (List.length_filter_le _ _) (by simp;omega)
  by_cases hsn : SeenW w.1 L 2
  ·simp only [hsn, decide_true, Bool.not_true, Bool.false_eq_true, if_false, List.append_nil] at hs
   repeat' (first|refine Sp.h ?_|refine Lk.r rfl ?_|refine Rf.mk rfl ?_|refine xA ?_|refine All.mk fun _=>?_|refine xT ?_|refine xI ?_|refine Ch.l ⟨rfl, rfl⟩ ?_|(apply SetAsk.r;focus repeat' constructor)|refine xN ?_|refine xO ?_|(apply Cl.p (k1);focus (repeat' constructor);done))
   rw [← hs]
   exact PA.lp (i + 1, v) xE ⟨hin, by simp only;omega⟩
  ·rw [if_pos (by simp [hsn])] at hs
   obtain ⟨e, u1, u2, u3⟩ := w
   have hsu : ((((ofW L 2).take (i + 1)).filter fun w => !decide (SeenW w.1 L 2)).map (·.2.2.2)) = ((((ofW L 2).take i).filter fun w => !decide (SeenW w.1 L 2)).map (·.2.2.2)) ++ [u3] := by rw [hs, List.map_append];rfl
   repeat' (first|refine Sp.h ?_|refine Lk.r rfl ?_|refine Rf.mk rfl ?_|refine xA ?_|refine xB ?_|refine xP ?_|refine All.mk fun _=>?_|refine xU ?_|refine xT ?_|refine xI ?_|refine Ce.r ?_|refine Ch.l ⟨rfl, rfl⟩ ?_|(apply SetAsk.r;focus repeat' constructor)|(apply Fk.r;focus repeat' first|infer_instance|constructor)|refine xN ?_|refine Rf.mk ⟨rfl, rfl⟩ ?_|refine Rf.mk ⟨rfl, rfl, rfl⟩ ?_|(apply Mp.lit;(focus repeat (first|exact MpL.nil|(apply MpL.cons;(focus rfl))|(apply MpL.inv;(focus repeat constructor);(focus infer_instance)))))|refine xO ?_|(apply Cl.p (k1);focus (repeat' constructor);done))
   rw [← hsu]
   exact PA.lp (i + 1, _) xE ⟨hin, by simp only;omega⟩
 ·have hie : i = (ofW L 2).length := by omega
  subst hie
  rw [List.take_length, ← e5]
  have hso : ∀ w, _ := fun w => sortInt_a w 3 (vals5 L) (by omega)
  have hco : ∀ w, _ := fun w => compactI_a w (srtI (vals5 L)) (by rw [srtI_len];omega)
  by_cases hz : vals5 L = []
  ·rw [if_pos hz]
   have hz2 : ((vals5 L).length : Int) = 0 := by rw [hz];rfl
   (repeat' (first|(show CA _ _ Code.ret _ _;apply Stopped.out)|refine Sp.h ?_|refine Lk.r rfl ?_|refine Rf.mk rfl ?_|refine xA ?_|refine xB ?_|refine All.mk fun _=>?_|refine xU ?_|(apply Fk.r;focus repeat' first|infer_instance|constructor)|refine Rf.mk ⟨rfl, rfl, rfl⟩ ?_|fail));any_goals apply Stopped.mk
   apply CA.retype (m := [x]) (g := i1)
   focus (repeat constructor)
   focus rfl
   repeat' (first|refine Sp.h ?_|refine Lk.r rfl ?_|refine xN ?_|fail)
   exact ⟨_, _, .one (.same (.z)), _, rfl, rfl⟩
  ·rw [if_neg hz]
   have hz2 : ¬ ((vals5 L).length : Int) = 0 := by
    have : (vals5 L).length ≠ 0 := fun h => hz (List.eq_nil_of_length_eq_zero h)
    omega
   repeat' (first|refine Sp.h ?_|refine Lk.r rfl ?_|refine Rf.mk rfl ?_|refine xB ?_|refine xU ?_|fail)
   refine xW (hso _) ?_
   rintro _ _ ⟨rfl, rfl⟩
   repeat' (first|refine Sp.h ?_|refine Lk.r rfl ?_|refine Rf.mk rfl ?_|fail)
   refine xW (hco _) ?_
   rintro _ _ ⟨w2, rfl, rfl⟩
   repeat' (first|refine Sp.h ?_|refine Lk.r rfl ?_|refine xN ?_|fail)
   exact ⟨_, _, .one (.same (.z)), _, rfl, rfl⟩
end Go.Proofs.YtajenkpjcbaadaaGreat
namespace Go.Proofs.YtajenkpjcbaadaaGreat
open Go Go.CF
set_option maxRecDepth 20000
def fnW (p : FuncId × List AV) : AV := .fn p.1 p.2
abbrev kvsW (t : TblS) : List (List Int × (FuncId × List AV)) := [([2], (111, [ofA])), ([3], (116, [ofA])), ([4], (118, [ofA, .ad [it (iniT t)] 0])), ([5], (121, [ofA, .ad [it (iniT t)] 0]))]
set_option maxHeartbeats 1000000 in
theorem evalues_a (t : TblS) : CallA Tryz.prog 60 [.agg (tblC t)] [] fun r own => ∃ b, r = .val (.map (some b)) ∧ own = [mapR Tryz.prog b 3 (kvsW t) fnW] := by
 refine CallA.of pg ord60 Tryz.func60 rfl Tryz.ntmps60 Tryz.results60 rfl fun h0 G0 O0 => ?_
 (repeat' (first|(show CA _ _ (Code.region 2 _ _) _ _;apply Stopped.out)|refine Sp.h ?_|refine Lk.r rfl ?_|refine Rf.mk rfl ?_|refine All.mk fun _=>?_|refine xT ?_|refine xV ?_|refine xN ?_|fail));any_goals apply Stopped.mk
 refine CA.freezeB 3 rfl (by repeat constructor) ?_
 (repeat' (first|(show CA _ _ (Code.region 3 _ _) _ _;apply Stopped.out)|refine Sp.h ?_|refine Lk.r rfl ?_|refine Rf.mk rfl ?_|refine All.mk fun _=>?_|refine xT ?_|refine xV ?_|refine xN ?_|fail));any_goals apply Stopped.mk
 refine CA.freezeB 4 rfl (by repeat constructor) ?_
 repeat' (first|refine Sp.h ?_|refine Lk.r rfl ?_|refine Rf.mk rfl ?_|fail)
 refine MkM.r fnW ?_
 repeat' (first|refine Sp.h ?_|refine Lk.r rfl ?_|refine Rf.mk rfl ?_|refine All.mk fun _=>?_|(apply Kf.mk;(focus kernel_rfl))|refine xM ?_|fail)
 refine UpV.r (v := (111, [ofA])) rfl ?_
 repeat' (first|refine Sp.h ?_|refine Lk.r rfl ?_|refine Rf.mk rfl ?_|(apply Kf.mk;(focus kernel_rfl))|refine xM ?_|fail)
 refine UpV.r (v := (116, [ofA])) rfl ?_
 repeat' (first|refine Sp.h ?_|refine Lk.r rfl ?_|refine Rf.mk rfl ?_|(apply Kf.mk;(focus kernel_rfl))|refine xM ?_|fail)
 refine UpV.r (v := (118, [ofA, .ad [it (iniT t)] 0])) rfl ?_
 repeat' (first|refine Sp.h ?_|refine Lk.r rfl ?_|refine Rf.mk rfl ?_|(apply Kf.mk;(focus kernel_rfl))|refine xM ?_|fail)
 refine UpV.r (v := (121, [ofA, .ad [it (iniT t)] 0])) rfl ?_
 repeat' (first|refine Sp.h ?_|refine Lk.r rfl ?_|refine xN ?_|fail)
 exact ⟨_, _, .one (.same (.z)), _, rfl, rfl⟩
noncomputable def valE (t : TblS) (W : List WrS) : List Int := if t.kind = 2 then [if decide (Live0 W) = true then 1 else 0] else if t.kind = 3 then [if decide (In1 W) = true then 1 else 0] else if t.kind = 4 then [val4F (iniT t) W] else if vals5 W = [] then [iniT t] else srtD (vals5 W)
noncomputable def evlL (m : ModS) (l : List EvS) (ts : List TblS) : List (List Int) := ts.zipIdx.map fun p => valE p.1 (wrF m l p.2)
theorem evlL_len (m : ModS) (l : List EvS) (ts : List TblS) : (evlL m l ts).length = ts.length := by simp [evlL]
theorem evlL_snoc (m : ModS) (l : List EvS) (ts : List TblS) (t : TblS) : evlL m l (ts ++ [t]) = evlL m l ts ++ [valE t (wrF m l ts.length)] := by
 simp [evlL, List.zipIdx_append]
theorem kvs_look (t : TblS) (hk : Kd t) : ∃ f caps, lookL (kvsW t) [t.kind] = some (f, caps) ∧ en f = true ∧ ∀ W : List WrS, W.length ≤ 100000 → CallP Tryz.prog f (wrs W :: caps) (ints (valE t W)) := by
 rcases hk with k|k|k|k
 ·refine ⟨111, [ofA], by rw [k];rfl, rfl, fun W hW => ?_⟩
  have := vals2_p W (by omega)
  rwa [show valE t W = [if decide (Live0 W) = true then 1 else 0] by simp only [valE, k, if_true]]
 ·refine ⟨116, [ofA], by rw [k];rfl, rfl, fun W hW => ?_⟩
  have := vals3_p W (by omega)
  rwa [show valE t W = [if decide (In1 W) = true then 1 else 0] by simp [valE, k]]
 ·refine ⟨118, [ofA, .ad [it (iniT t)] 0], by rw [k];rfl, rfl, fun W hW => ?_⟩
  have := vals4_p W (iniT t) (by omega)
  rwa [show valE t W = [val4F (iniT t) W] by simp [valE, k]]
 ·refine ⟨121, [ofA, .ad [it (iniT t)] 0], by rw [k];rfl, rfl, fun W hW => ?_⟩
  have := vals5_p W (iniT t) (by omega)
  rwa [show valE t W = if vals5 W = [] then [iniT t] else srtD (vals5 W) by simp [valE, k]]
set_option maxHeartbeats 4000000 in
theorem eValues_a (m : ModS) (l : List EvS) (hm : LayOK m.sorts m.tables) (hkd : ∀ t ∈ m.tables, ¬ isStrict t.kind → Kd t) (hv : ∀ e ∈ l, EvV m (e.past.length : Nat) e) (ha : ActOK m l) (hl : l.length ≤ 1000) :
  CallA Tryz.prog 17 [mdl m, evs l] [] fun r own => ∃ v, r = .tup [.ow v, it 0] ∧ own = [arrR v 22 1 (evlL m l (mrgF m)) clkC] := by
 have k0 := evalidL_p m l hv
 have hml := hm.2.2.1
 refine CallA.of pg ord17 Tryz.func17 rfl Tryz.ntmps17 Tryz.results17 rfl fun h0 G0 O0 => ?_
 repeat' (first|refine Sp.h ?_|refine Lk.r rfl ?_|refine Rf.mk rfl ?_|refine xA ?_|refine Im.mk fun _=>?_|refine All.mk fun _=>?_|refine xT ?_|refine Ch.l ⟨rfl, rfl⟩ ?_|(apply Cl.p (k0);focus repeat' constructor))
 rename_i b2 hl9
 refine CA.nilOwn 6 22 1 clkC rfl fun v0 => ?_
 refine CA.loop (fun x : Nat × Value => ⟨[(1, evs l), (2, pm b2), (6, .ow x.2), (15, tbls m.tables), (16, it (m.tables.length : Nat)), (17, it (x.1 : Nat))], [mR b2 m, arrR x.2 22 1 (evlL m l (mrgL m (m.tables.take x.1))) clkC]⟩) (fun x => x.1 ≤ m.tables.length) (fun x => m.tables.length - x.1) (0, v0) xE (Nat.zero_le _) ?_
 rintro ⟨i, v⟩ hi
 simp only at hi
 simp only
 by_cases hin : i < m.tables.length
 ·obtain ⟨t, ht⟩ := get_of hin
  have htm := List.mem_of_getElem? ht
  have hc := (hm.2.2.2 t htm).1
  have h1 := sz_fit (m := m) hc
  have hn := mrgL_le hm i hi
  have hsu := mrgL_succ (m := m) ht
  have k1 := estrict_p t
  by_cases hst : isStrict t.kind
  ·rw [if_pos hst, List.append_nil] at hsu
   repeat' (first|refine Sp.h ?_|refine Lk.r rfl ?_|refine Rf.mk rfl ?_|refine xA ?_|refine All.mk fun _=>?_|refine xT ?_|refine xI ?_|refine Ch.l ⟨rfl, rfl⟩ ?_|(apply SetAsk.r;focus repeat' constructor)|refine xN ?_|refine xO ?_|(apply Cl.p (k1);focus repeat' constructor))
   rw [← hsu]
   exact PA.lp (i + 1, v) xE ⟨hin, by simp only;omega⟩
  ·rw [if_neg hst] at hsu
   obtain ⟨f, caps, hlk, hen, hf⟩ := kvs_look t (hkd t htm hst)
   have k2 := esize_p m t hc
   repeat' (first|refine Sp.h ?_|refine Lk.r rfl ?_|refine Rf.mk rfl ?_|refine xA ?_|refine xB ?_|refine OpK.r rfl ?_|refine All.mk fun _=>?_|refine xT ?_|refine xI ?_|refine Ch.l ⟨rfl, rfl⟩ ?_|(apply SetAsk.r;focus repeat' constructor)|refine xN ?_|refine xD ?_|(apply Cl.p (k1);focus repeat' constructor))
   refine xW (evalues_a t) ?_
   rintro _ _ ⟨bm, rfl, rfl⟩
   repeat' (first|refine Sp.h ?_|refine Lk.r rfl ?_|refine Rf.mk rfl ?_|refine OpK.r rfl ?_|refine xT ?_|refine Ch.l ⟨rfl, rfl⟩ ?_|(apply Kf.mk;(focus kernel_rfl))|refine xM ?_|(apply LkM.s;(focus first|assumption|rfl))|(apply Cl.p (k2);focus repeat' constructor))
   refine CA.loop (fun x : Nat × Value => ⟨[(1, evs l), (2, pm b2), (6, .ow x.2), (9, .fn f caps), (15, tbls m.tables), (16, it (m.tables.length : Nat)), (17, it (i : Nat)), (30, it (szF m t : Nat)), (31, it (x.1 : Nat))], [mR b2 m, arrR x.2 22 1 (evlL m l (mrgL m (m.tables.take i) ++ List.replicate x.1 t)) clkC]⟩) (fun x => x.1 ≤ szF m t) (fun x => szF m t - x.1) (0, v) ?_ (Nat.zero_le _) ?_
   ·simp only [List.replicate_zero, List.append_nil]
    exact xE
   rintro ⟨q, w⟩ hq
   simp only at hq
   simp only
   by_cases hqn : q < szF m t
   ·have hls := evlL_snoc m l (mrgL m (m.tables.take i) ++ List.replicate q t) t
    rw [List.append_assoc, show List.replicate q t ++ [t] = List.replicate (q + 1) t from List.replicate_succ'.symm] at hls
    have hlen := evlL_len m l (mrgL m (m.tables.take i) ++ List.replicate q t)
    have hlb : (evlL m l (mrgL m (m.tables.take i) ++ List.replicate q t)).length ≤ 10000 := by rw [hlen, List.length_append, List.length_replicate];omega
    rw [← hlen] at hls
    have hwl := wr_len m l (evlL m l (mrgL m (m.tables.take i) ++ List.replicate q t)).length
    have k3 : CallP Tryz.prog 61 [mdl m, evs l, it ((evlL m l (mrgL m (m.tables.take i) ++ List.replicate q t)).length : Nat)] (wrs (wrF m l (evlL m l (mrgL m (m.tables.take i) ++ List.replicate q t)).length)) := CallA.fz (T := 177) (by omega) (writes_p m l _ hl ha)
    have k4 := hf (wrF m l (evlL m l (mrgL m (m.tables.take i) ++ List.replicate q t)).length) (by omega)
    repeat' (first|refine Sp.h ?_|refine Lk.r rfl ?_|refine Rf.mk rfl ?_|refine xA ?_|refine xP ?_|refine All.mk fun _=>?_|refine xU ?_|refine xT ?_|refine Ce.r ?_|refine Ch.l ⟨rfl, rfl⟩ ?_|(apply Fk.r;focus repeat' first|infer_instance|constructor)|refine Rf.mk ⟨rfl, rfl⟩ ?_|refine Rf.mk ⟨rfl, rfl, rfl⟩ ?_|(apply Rf.mk;(focus assumption))|(apply Mp.lit;(focus repeat (first|exact MpL.nil|(apply MpL.cons;(focus rfl))|(apply MpL.inv;(focus repeat constructor);(focus infer_instance)))))|refine xO ?_|(apply Cl.p (k3);focus repeat' constructor)|(apply Cl.p (k4);focus repeat' constructor))
    ·exact Lend.all _
    rw [← hls]
    exact PA.lp (q + 1, _) xE ⟨hqn, by simp only;omega⟩
   have hqe : q = szF m t := by omega
   subst hqe
   rw [← hsu]
   repeat' (first|refine Sp.h ?_|refine Lk.r rfl ?_|refine Rf.mk rfl ?_|refine xB ?_|refine xO ?_|fail)
   exact PA.lp (i + 1, w) xE ⟨hin, by simp only;omega⟩
 ·have hie : i = m.tables.length := by omega
  subst hie
  simp only [List.take_length]
  repeat' (first|refine Sp.h ?_|refine Lk.r rfl ?_|refine Rf.mk rfl ?_|refine xB ?_|refine xN ?_|fail)
  exact ⟨_, _, .one (.same (.z)), _, rfl, rfl⟩
theorem eValues_p (m : ModS) (l : List EvS) (hm : LayOK m.sorts m.tables) (hkd : ∀ t ∈ m.tables, ¬ isStrict t.kind → Kd t) (hv : ∀ e ∈ l, EvV m (e.past.length : Nat) e) (ha : ActOK m l) (hl : l.length ≤ 1000) :
  CallP Tryz.prog 17 [mdl m, evs l] (.tup [.sl 1 (evlL m l (mrgF m)) clkC, it 0]) :=
 CallA.fzt (T := 22) (by have := mrgF_le hm;rw [evlL_len];omega) (eValues_a m l hm hkd hv ha hl)
end Go.Proofs.YtajenkpjcbaadaaGreat
namespace Go.Proofs.YtajenkpjcbaadaaGreat
open Go Go.CF
set_option maxRecDepth 20000
theorem cmpT_pos {a b : EvS} : 0 < cmpT a b ↔ LtT b a := by
 unfold cmpT orI LtT
 simp only [List.find?_cons, List.find?_nil]
 unfold cmpI
 by_cases h1 : a.time < b.time
 ·simp [h1];omega
 ·by_cases h2 : b.time < a.time
  ·simp [h1, h2]
  ·have h3 : a.time = b.time := by omega
   by_cases h4 : a.rep < b.rep
   ·simp [h3, h4];omega
   ·by_cases h5 : b.rep < a.rep
    ·simp [h3, h4, h5]
    ·simp [h3, h4, h5]
theorem maxW_ok : ∀ (l : List WrS) (a : WrS), maxW a l ∈ a :: l ∧ ∀ x ∈ a :: l, ¬ LtT (maxW a l).1 x.1
 | [], a => ⟨by simp [maxW], fun x hx => by
   rw [List.mem_singleton.1 hx]
   show ¬ LtT a.1 a.1
   unfold LtT;omega⟩
 | y :: l, a => by
  have hs : maxW a (y :: l) = maxW (if 0 < cmpT y.1 a.1 then y else a) l := rfl
  rw [hs]
  obtain ⟨h1, h2⟩ := maxW_ok l (if 0 < cmpT y.1 a.1 then y else a)
  generalize hm : maxW (if 0 < cmpT y.1 a.1 then y else a) l = M at *
  by_cases hc : 0 < cmpT y.1 a.1
  ·rw [if_pos hc] at h1 h2
   have hc' := cmpT_pos.1 hc
   refine ⟨List.mem_cons_of_mem _ h1, fun x hx => ?_⟩
   rcases List.mem_cons.1 hx with rfl|hx
   ·have h3 := h2 y (by simp)
    intro h4;exact h3 (by unfold LtT at *;omega)
   ·exact h2 x hx
  ·rw [if_neg hc] at h1 h2
   have hc' : ¬ LtT a.1 y.1 := fun h => hc (cmpT_pos.2 h)
   refine ⟨?_, fun x hx => ?_⟩
   ·rcases List.mem_cons.1 h1 with h1|h1
    ·rw [h1];simp
    ·simp [h1]
   ·rcases List.mem_cons.1 hx with rfl|hx
    ·exact h2 _ (by simp)
    ·rcases List.mem_cons.1 hx with rfl|hx
     ·have h3 := h2 a (by simp)
      intro h4;exact h3 (by unfold LtT at *;omega)
     ·exact h2 x (by simp [hx])
theorem ofW_mem {L : List WrS} {k : Int} {w : WrS} : w ∈ ofW L k ↔ w ∈ L ∧ w.2.1 = k := by simp [ofW]
theorem valE_d {t : TblS} (W : List WrS) : ValD t W (valE t W) := by
 refine ⟨fun k => ?_, fun k => ?_, fun k => ?_, fun k => ?_⟩
 ·simp [valE, k]
 ·simp [valE, k]
 ·have hv : valE t W = [val4F (iniT t) W] := by simp [valE, k]
  rw [hv]
  cases ho : ofW W 2 with
  | nil =>
   refine .inl ⟨fun w hw h2 => ?_, by simp only [val4F, ho]⟩
   have := ofW_mem.2 ⟨hw, h2⟩
   rw [ho] at this;cases this
  | cons a l =>
   obtain ⟨h1, h2⟩ := maxW_ok l a
   rw [← ho] at h1 h2
   obtain ⟨h3, h4⟩ := ofW_mem.1 h1
   exact .inr ⟨_, h3, h4, by simp only [val4F, ho], fun x hx hx2 => h2 x (ofW_mem.2 ⟨hx, hx2⟩)⟩
 ·simp [valE, k]
theorem evl_eq {m : ModS} {l : List EvS} {k : List MgS} (hm : LayOK m.sorts m.tables) (hc : ClosedE l) (h : KnL m l k) : valsF (mrgF m) k = evlL m l (mrgF m) := by
 apply List.ext_getElem?
 intro i
 unfold valsF evlL
 simp only [List.getElem?_map, List.getElem?_zipIdx]
 cases ht : (mrgF m)[i]? with
 | none =>
  have h9 := List.getElem?_eq_none_iff.1 ht
  simp
  omega
 | some t =>
  have hil := (List.getElem?_eq_some_iff.1 ht).1
  obtain ⟨g, hg⟩ : ∃ g, k[i]? = some g := ⟨_, List.getElem?_eq_getElem (by rw [h.len];exact hil)⟩
  have hz : ((mrgF m).zip k)[i]? = some (t, g) := by rw [List.getElem?_zip_eq_some];exact ⟨ht, hg⟩
  rw [hz]
  simp only [Option.map_some, Nat.zero_add]
  rw [valD_eq (kd_of hm ht) hc (h.kn i t g ht hg).1 (valE_d _)]
theorem kn_perm {m : ModS} {X l : List EvS} {k : List MgS} (hp : X.Perm l) (h : KnL m X k) : KnL m l k := by
 have hmem : ∀ e : EvS, e ∈ X ↔ e ∈ l := fun e => hp.mem_iff
 refine ⟨h.len, fun i t g ht hg => ?_⟩
 obtain ⟨k, n⟩ := h.kn i t g ht hg
 refine ⟨⟨by simpa only [PutP, hmem] using k.put, k.drop, k.srt, fun h4 => by have := k.four h4;simpa only [Kn4, Asg, hmem] using this, fun h4 x => by have := k.liv h4 x;simpa only [Liv, hmem] using this⟩, by rw [← hp.length_eq];exact n⟩
end Go.Proofs.YtajenkpjcbaadaaGreat
namespace Go.Proofs.YtajenkpjcbaadaaGreat
open Go Go.CF
set_option maxRecDepth 20000
def meetC (a b : List Int) : List Int := zipC min a b
theorem has_meet {a b : List Int} (ha : ValC a) (hb : ValC b) (h : a.length = b.length) (r n : Int) : HasC (meetC a b) r n ↔ HasC a r n ∧ HasC b r n := by
 have hl : (meetC a b).length = a.length := zipC_len h
 constructor
 ·rintro ⟨_, h1, h2, x, h3, h4⟩
  obtain ⟨p, q, hp, hq, rfl⟩ := (zipC_at h).1 h3
  exact ⟨⟨ha, h1, h2, p, hp, by omega⟩, ⟨hb, h1, h2, q, hq, by omega⟩⟩
 ·rintro ⟨⟨_, h1, h2, p, hp, h3⟩, ⟨_, _, _, q, hq, h4⟩⟩
  exact ⟨zipC_val ha hb h rng_min, h1, h2, min p q, (zipC_at h).2 ⟨p, q, hp, hq, rfl⟩, by omega⟩
theorem Part.meet {l : List EvS} {ac bc : List Int} (hc : ClosedE l) (ha : Part l ac) (hb : Part l bc) : Part l (meetC ac bc) := by
 have hl : ac.length = bc.length := ha.len.trans hb.len.symm
 refine ⟨zipC_val ha.val hb.val hl rng_min, by rw [meetC, zipC_len hl];exact ha.len, fun e he d hd hh => ?_, fun e he => ?_⟩
 ·obtain ⟨h1, h2⟩ := mem_cut.1 he
  obtain ⟨h3, h4⟩ := (has_meet ha.val hb.val hl _ _).1 h2
  exact mem_cut.2 ⟨hd, (has_meet ha.val hb.val hl _ _).2 ⟨(mem_cut.1 (ha.cls e (mem_cut.2 ⟨h1, h3⟩) d hd hh)).2, (mem_cut.1 (hb.cls e (mem_cut.2 ⟨h1, h4⟩) d hd hh)).2⟩⟩
 ·obtain ⟨h1, h2⟩ := mem_cut.1 he
  obtain ⟨h3, h4⟩ := (has_meet ha.val hb.val hl _ _).1 h2
  intro i x y hx hy
  obtain ⟨p, q, hp, hq, rfl⟩ := (zipC_at hl).1 hy
  have := ha.sub e (mem_cut.2 ⟨h1, h3⟩) i x p hx hp
  have := hb.sub e (mem_cut.2 ⟨h1, h4⟩) i x q hx hq
  omega
theorem EvK.meet {l : List EvS} {ac bc : List Int} (hl : ac.length = bc.length) (ha : EvK l ac) (hb : EvK l bc) : EvK l (meetC ac bc) := fun i x hx h1 => by
 obtain ⟨p, q, hp, hq, rfl⟩ := (zipC_at hl).1 hx
 by_cases h9 : q ≤ p
 ·rw [show min p q = q by omega] at h1 ⊢
  exact hb i q hq h1
 ·rw [show min p q = p by omega] at h1 ⊢
  exact ha i p hp h1
theorem ext_split {l D : List EvS} {k : List Int} (hD : ExtO l D) (hk : Part l k) : ExtO l (inL k D ++ outL k D) := by
 have hin : ∀ i, i ≤ D.length → ExtO l (inL k (D.take i)) := by
  intro i
  induction i with
  | zero => intro _;exact ExtO.nil l
  | succ i ih =>
   intro hi
   obtain ⟨e, he⟩ := get_of (l := D) (i := i) (by omega)
   rw [inL_succ he]
   have hel := hD.sub e (List.mem_of_getElem? he)
   by_cases hh : HasC k e.rep e.num
   ·rw [if_pos hh]
    refine (ih (by omega)).snoc hel (fun h9 => (hD.nxt i e he).1 (List.mem_filter.1 h9).1) fun d hd h8 => List.mem_filter.2 ⟨(hD.nxt i e he).2 d hd h8, decide_eq_true (mem_cut.1 (hk.cls e (mem_cut.2 ⟨hel, hh⟩) d hd h8)).2⟩
   ·rw [if_neg hh, List.append_nil];exact ih (by omega)
 have hA := hin D.length (Nat.le_refl _)
 rw [List.take_length] at hA
 have hout : ∀ i, i ≤ D.length → ExtO l (inL k D ++ outL k (D.take i)) := by
  intro i
  induction i with
  | zero => intro _;rw [List.take_zero, outL, List.filter_nil, List.append_nil];exact hA
  | succ i ih =>
   intro hi
   obtain ⟨e, he⟩ := get_of (l := D) (i := i) (by omega)
   rw [outL_succ he]
   have hel := hD.sub e (List.mem_of_getElem? he)
   by_cases hh : HasC k e.rep e.num
   ·rw [if_pos hh, List.append_nil];exact ih (by omega)
   ·rw [if_neg hh, ← List.append_assoc]
    refine (ih (by omega)).snoc hel (fun h9 => ?_) fun d hd h8 => ?_
    ·rcases List.mem_append.1 h9 with h9|h9
     ·exact hh (of_decide_eq_true (List.mem_filter.1 h9).2)
     ·exact (hD.nxt i e he).1 (List.mem_filter.1 h9).1
    ·have h7 := (hD.nxt i e he).2 d hd h8
     by_cases hdk : HasC k d.rep d.num
     ·exact List.mem_append_left _ (List.mem_filter.2 ⟨List.mem_of_mem_take h7, decide_eq_true hdk⟩)
     ·exact List.mem_append_right _ (List.mem_filter.2 ⟨h7, decide_eq_true hdk⟩)
 have := hout D.length (Nat.le_refl _)
 rwa [List.take_length] at this
theorem inout_perm (k : List Int) : ∀ D : List EvS, (inL k D ++ outL k D).Perm D
 | [] => List.Perm.refl _
 | e :: D => by
  have ih := inout_perm k D
  unfold inL outL at ih ⊢
  by_cases hh : HasC k e.rep e.num
  ·rw [List.filter_cons_of_pos (by simpa using hh), List.filter_cons_of_neg (by simpa using hh)]
   exact List.Perm.cons e ih
  ·rw [List.filter_cons_of_neg (by simpa using hh), List.filter_cons_of_pos (by simpa using hh)]
   exact List.perm_middle.trans (List.Perm.cons e ih)
theorem cmp_ok {m : ModS} {ld : List Int} {l : List EvS} {k : List Int} {p : PrS} (hs : SuitS m ld l) (hk : Part l k) (ek : EvK l k) (h : InvP m ld l p.s.evs p) (hb : p.s.base = stN m (n0 l) ld []) (hin : ∀ e ∈ l, HasC k e.rep e.num → e ∈ p.s.evs) :
  ∃ s', compactF m p.s k = (0, s') ∧ s'.evs = outL k p.s.evs ∧ InvP m ld l p.s.evs ⟨s', p.c, p.H, p.err⟩ := by
 have hc := hs.e.2.2.1
 have hl60 := hs.e.2.1.1
 have hlen := extO_len h.buf.ext
 have c1 : ValC k ∧ k.length = p.s.now.clock.length := ⟨hk.val, by rw [hk.len, h.sto.clock, clkE_len]⟩
 have c2 : Ins p.s.base.clock k ∧ Ins k p.s.now.clock ∧ ∀ e ∈ p.s.evs, HasC k e.rep e.num → Ins e.past k := by
  refine ⟨fun i x y hx hy => ?_, ?_, fun e he hh => hk.sub e (mem_cut.2 ⟨h.buf.ext.sub e he, hh⟩)⟩
  ·rw [hb] at hx
   have h3 : x = 0 := (List.mem_replicate.1 (List.mem_of_getElem? (show (List.replicate (n0 l) (0 : Int))[i]? = some x from hx))).2
   have h4 := hk.val.1 y (List.mem_of_getElem? hy)
   unfold rngK at h4
   omega
  ·rw [h.sto.clock]
   exact ins_of hc h.buf.ext hk.val hk.len ek hin
 have hmrg : (outL k p.s.evs).foldl (mrg1 m) (cmpB m p.s.base k p.s.evs).merged = (inL k p.s.evs ++ outL k p.s.evs).foldl (mrg1 m) (List.replicate (mrgF m).length mg0) := by
  rw [List.foldl_append]
  congr 1
  unfold cmpB
  rw [cmp1_fold, hb]
  rfl
 have hsp := ext_split h.buf.ext hk
 have hpm := inout_perm k p.s.evs
 have hkn := mrg_fold hs.e hsp (by rw [hpm.length_eq];omega)
 refine ⟨_, @Eq.trans _ _ _ _ (@if_neg _ (Classical.propDecidable _) (fun h9 => h9 c1) _ _ _) (@if_neg _ (Classical.propDecidable _) (fun h9 => h9 c2) _ _ _), rfl, ⟨h.err, ⟨h.sto.clock, h.sto.time, h.sto.state, ?_, h.sto.places⟩, List.filter_sublist, h.buf, h.nrd⟩⟩
 simp only
 rw [hmrg]
 exact kn_perm hpm hkn
theorem end_show {m : ModS} {ld : List Int} {l D U : List EvS} {p : PrS} (hs : SuitS m ld l) (h : InvP m ld l D p) (hp : D.Perm U) (hU : ClosedE U) : p.s.now.state = U.foldl (addE m) ld ∧ (valuesQ m p.s.now.merged).2 = evlL m U (mrgF m) := by
 have hc := hs.e.2.2.1
 have hlay := hs.e.1.lay
 have hlen := extO_len h.buf.ext
 have hl60 := hs.e.2.1.1
 refine ⟨by rw [h.sto.state, state_perm hp], ?_⟩
 have hvl : ValL (mrgF m) p.s.now.merged := h.sto.merged.valL hlay hs.e.2.2.2.1 (uniqP_sub (uniqP_of hc.2.1) h.buf.ext.sub) (fun e he => (hc.2.2.1 e (h.buf.ext.sub e he)).1) (by omega)
 rw [valuesQ_ok hvl]
 exact evl_eq hlay hU (kn_perm hp h.sto.merged)
theorem closed_nil : ClosedE [] := ⟨by simp, fun i j a b h => by simp at h, fun e he => (nomatch he), fun e he => (nomatch he)⟩
theorem part_closed' {l : List EvS} (hc : ClosedE l) {k : List Int} (hk : Part l k) : ClosedE (cutL l k) := by
 by_cases h : cutL l k = []
 ·rw [h];exact closed_nil
 ·exact part_closed hc hk h
theorem cmp_rec {m : ModS} {ld : List Int} {l Da Db : List EvS} {ac bc : List Int} {p q : PrS} (hs : SuitS m ld l) (ha : Part l ac) (hb : Part l bc) (hda : Da.Perm (cutL l ac)) (hdb : Db.Perm (cutL l bc)) (ip : InvP m ld l Da p) (iq : InvP m ld l Db q) (np : p.H = []) (nq : q.H = []) (cp : Covers Da Db p) (cq : Covers Db Da q) (most : Int) (hmo : 1 ≤ most ∧ most ≤ 1024) :
  ∃ R S p' q' Xa Xb, RecK m (n0 l) 200 most p q R S p' q' ∧ R ≤ 1000 ∧ S ≤ 1000 ∧ (S : Int) = 2 * ((cutL l (joinC ac bc)).length : Int) - ((cutL l ac).length : Int) - ((cutL l bc).length : Int) ∧
   InvP m ld l (Da ++ Xa) p' ∧ InvP m ld l (Db ++ Xb) q' ∧ (Da ++ Xa).Perm (cutL l (joinC ac bc)) ∧ (Db ++ Xb).Perm (cutL l (joinC ac bc)) := by
 have hc := hs.e.2.2.1
 have hl60 := hs.e.2.1.1
 have h1 : unk l Da p ≤ l.length := List.length_filter_le _ _
 have h2 : unk l Db q ≤ l.length := List.length_filter_le _ _
 obtain ⟨R, S, p', q', Xa, Xb, r1, r2, r3, r4⟩ := rec_ex hs most hmo _ Da Db p q (Nat.le_refl _) ip iq cp cq
 obtain ⟨c1, c2, c3, c4⟩ := rec_count hs most hmo r1 Da Db ⟨ip, iq, np, nq, cp, cq⟩
 have hcu : ∀ e, e ∈ cutL l (joinC ac bc) ↔ e ∈ Da ∨ e ∈ Db := fun e => by
  have := cut_join ha hb e
  rw [ordE_mem] at this
  rw [this, hda.mem_iff, hdb.mem_iff]
 have hna := extO_nodup ip.buf.ext
 have hnb := extO_nodup iq.buf.ext
 have hnu : (cutL l (joinC ac bc)).Nodup := (uniq_nodupE hc.2.1).filter _
 have o1 := off_len hna hnb hnu hcu
 have o2 := off_len hnb hna hnu fun e => by rw [hcu, or_comm]
 have memA : ∀ e, e ∈ Da ++ Xa ↔ e ∈ cutL l (joinC ac bc) := fun e => by
  rw [hcu]
  constructor
  ·intro h9
   rcases r4.new e h9 with h8|h8|h8|h8
   ·exact .inl h8
   ·exact .inr h8
   ·rw [heldE, np] at h8;cases h8
   ·rw [heldE, nq] at h8;cases h8
  ·rintro (h9|h9)
   ·exact List.mem_append_left _ h9
   ·exact (r4.same e).2 (List.mem_append_left _ h9)
 have l1 := hda.length_eq
 have l2 := hdb.length_eq
 exact ⟨R, S, p', q', Xa, Xb, r1, by omega, by omega, by omega, r4.ia, r4.ib, (List.perm_ext_iff_of_nodup (extO_nodup r4.ia.buf.ext) hnu).2 memA, (List.perm_ext_iff_of_nodup (extO_nodup r4.ib.buf.ext) hnu).2 fun e => by rw [← r4.same, memA]⟩
end Go.Proofs.YtajenkpjcbaadaaGreat
namespace Go.Proofs.YtajenkpjcbaadaaGreat
open Go Go.CF
set_option maxRecDepth 20000
set_option maxHeartbeats 8000000 in
theorem suits38_c (m : ModS) (ld : List Int) (l : List EvS) : CallF Tryz.prog 6 [mdl m, ints ld, evs l] (SuitS m ld l ∧ l.length ≤ 40) := by
 have hfe := few32_c m l
 refine CallA.of pg ord6 Tryz.func6 rfl Tryz.ntmps6 Tryz.results6 rfl fun h0 G0 O0 => ?_
 repeat' (first|refine Sp.h ?_|refine Lk.r rfl ?_|refine Rf.mk rfl ?_|refine All.mk fun _=>?_|refine xT ?_|refine Ch.l ⟨rfl, rfl⟩ ?_|fail)
 rename_i b3
 refine xW (hfe) ?_
 rintro _ _ ⟨b, rfl, rfl, h1⟩
 cases b
 ·repeat' (first|refine Sp.h ?_|refine Lk.r rfl ?_|refine Rf.mk rfl ?_|refine xB ?_|refine xN ?_|fail)
  exact ⟨_, _, .one (.same (.z)), _, rfl, rfl, fun h => by cases h⟩
 obtain ⟨hm, hf⟩ := h1 rfl
 have hcl := closed_p l
 have hst := strict32_p m hm.lay
 have hmg := merged32_p m hm.lay
 by_cases hl0 : l.length = 0
 ·repeat' (first|refine Sp.h ?_|refine Lk.r rfl ?_|refine Rf.mk rfl ?_|refine xA ?_|refine Im.mk fun _=>?_|refine xN ?_|fail)
  exact ⟨_, _, .one (.same (.z)), _, rfl, rfl, fun h => by cases h⟩
 by_cases hl40 : 40 < l.length
 ·repeat' (first|refine Sp.h ?_|refine Lk.r rfl ?_|refine Rf.mk rfl ?_|refine xA ?_|refine xB ?_|refine Im.mk fun _=>?_|refine xN ?_|fail)
  exact ⟨_, _, .one (.same (.z)), _, rfl, rfl, fun h => by cases h⟩
 by_cases hc : ClosedE l
 rotate_left
 ·rw [decide_eq_false hc] at hcl
  repeat' (first|refine Sp.h ?_|refine Lk.r rfl ?_|refine Rf.mk rfl ?_|refine xA ?_|refine xB ?_|refine Im.mk fun _=>?_|refine xN ?_|(apply Cl.p (hcl);focus (repeat' constructor);done)|(apply Cl.p (hst);focus (repeat' constructor);done))
  exact ⟨_, _, .one (.same (.z)), _, rfl, rfl, fun h => by cases h⟩
 rw [decide_eq_true hc] at hcl
 by_cases hln : ld.length = strF m
 rotate_left
 ·repeat' (first|refine Sp.h ?_|refine Lk.r rfl ?_|refine Rf.mk rfl ?_|refine xA ?_|refine xB ?_|refine Im.mk fun _=>?_|refine xT ?_|refine Ch.l ⟨rfl, rfl⟩ ?_|refine xN ?_|(apply Cl.p (hcl);focus (repeat' constructor);done)|(apply Cl.p (hst);focus (repeat' constructor);done))
  exact ⟨_, _, .one (.same (.z)), _, rfl, rfl, fun h => by cases h⟩
 repeat' (first|refine Sp.h ?_|refine Lk.r rfl ?_|refine Rf.mk rfl ?_|refine xA ?_|refine xB ?_|refine Im.mk fun _=>?_|refine xT ?_|refine Ch.l ⟨rfl, rfl⟩ ?_|(apply Cl.p (hcl);focus (repeat' constructor);done)|(apply Cl.p (hst);focus (repeat' constructor);done))
 refine CA.loop (fun i : Nat => ⟨[(1, ints ld), (2, evs l), (3, pm b3), (46, evs l), (47, it (l.length : Nat)), (48, it i)], [mR b3 m]⟩) (fun i => i ≤ l.length ∧ ∀ e ∈ l.take i, EvV m (n0 l : Nat) e) (fun i => l.length - i) 0 xE ⟨Nat.zero_le _, by simp⟩ ?_
 rintro i ⟨hi, hev⟩
 by_cases hin : i < l.length
 ·obtain ⟨e, he⟩ := get_of hin
  obtain ⟨d, hd⟩ := get_of (l := l) (i := 0) (by omega)
  have hn : n0 l = d.past.length := by rw [n0, hd];rfl
  have hvv := evalid_p m (d.past.length : Nat) e
  by_cases hv : EvV m (d.past.length : Nat) e
  ·repeat' (first|refine Sp.h ?_|refine Lk.r rfl ?_|refine Rf.mk rfl ?_|refine xA ?_|refine OpK.r rfl ?_|refine Im.mk fun _=>?_|refine All.mk fun _=>?_|refine xT ?_|refine xI ?_|refine Ch.l ⟨rfl, rfl⟩ ?_|(apply SetAsk.r;focus repeat' constructor)|refine xN ?_|refine xD ?_|refine xO ?_|(apply Cl.p (hvv);focus repeat' constructor))
   all_goals exact PA.lp (i + 1) xE ⟨⟨hin, all_succ he hev (by rw [hn];exact hv)⟩, by omega⟩
  ·repeat' (first|refine Sp.h ?_|refine Lk.r rfl ?_|refine Rf.mk rfl ?_|refine xA ?_|refine xB ?_|refine OpK.r rfl ?_|refine Im.mk fun _=>?_|refine All.mk fun _=>?_|refine xT ?_|refine xI ?_|refine Ch.l ⟨rfl, rfl⟩ ?_|(apply SetAsk.r;focus repeat' constructor)|refine xN ?_|refine xD ?_|(apply Cl.p (hvv);focus repeat' constructor))
   all_goals exact ⟨_, _, .one (.same (.z)), _, rfl, rfl, fun h => by cases h⟩
 have hie : i = l.length := by omega
 subst hie
 rw [List.take_length] at hev
 repeat' (first|refine Sp.h ?_|refine Lk.r rfl ?_|refine Rf.mk rfl ?_|refine xB ?_|refine Im.mk fun _=>?_|refine xT ?_|refine Ch.l ⟨rfl, rfl⟩ ?_|(apply Cl.p (hmg);focus repeat' constructor))
 refine CA.loop (fun i : Nat => ⟨[(3, pm b3), (9, tbls (mrgF m)), (64, ints ld), (65, it (ld.length : Nat)), (66, it i)], [mR b3 m]⟩) (fun i => i ≤ ld.length ∧ ∀ x ∈ ld.take i, -1000 ≤ x ∧ x ≤ 1000) (fun i => ld.length - i) 0 xE ⟨Nat.zero_le _, by simp⟩ ?_
 rintro i ⟨hi, ha⟩
 by_cases hin : i < ld.length
 ·obtain ⟨x, hx⟩ := get_of hin
  repeat' (first|refine Sp.h ?_|refine Lk.r rfl ?_|refine Rf.mk rfl ?_|refine xA ?_|refine xB ?_|(refine Bd.mk ?_ ?_ <;> intro _)|refine xI ?_|refine xN ?_|refine xO ?_|fail)
  all_goals first
   | exact ⟨_, _, .one (.same (.z)), _, rfl, rfl, fun h => by cases h⟩
   | exact PA.lp (i + 1) xE ⟨⟨hin, all_succ hx ha ⟨by omega, by omega⟩⟩, by omega⟩
 have hie : i = ld.length := by omega
 subst hie
 rw [List.take_length] at ha
 repeat' (first|refine Sp.h ?_|refine Lk.r rfl ?_|refine Rf.mk rfl ?_|refine xB ?_|refine Im.mk fun _=>?_|refine xT ?_|fail)
 refine CA.loop (fun i : Nat => ⟨[(9, tbls (mrgF m)), (78, .sl 5 m.acts actC), (79, it (m.acts.length : Nat)), (80, it i)], []⟩) (fun i => i ≤ m.acts.length ∧ ∀ a ∈ m.acts.take i, (∀ u ∈ a.eff.updates, ∀ (i : Nat) t, u.2.1 = i → (mrgF m)[i]? = some t → FitO t u) ∧ ∀ p ∈ a.eff.delta, -1000 ≤ p.2 ∧ p.2 ≤ 1000) (fun i => m.acts.length - i) 0 xE ⟨Nat.zero_le _, by simp⟩ ?_
 rintro i ⟨hi, hac⟩
 by_cases hin : i < m.acts.length
 ·obtain ⟨a, hx⟩ := get_of hin
  have heo := hm.eff a (List.mem_of_getElem? hx)
  repeat' (first|refine Sp.h ?_|refine Lk.r rfl ?_|refine Rf.mk rfl ?_|refine xA ?_|refine Im.mk fun _=>?_|refine All.mk fun _=>?_|refine xT ?_|refine xI ?_|refine Ch.l ⟨rfl, rfl⟩ ?_|(apply SetAsk.r;focus repeat' constructor)|refine xN ?_|fail)
  rename_i b13 _
  refine CA.loop (fun k : Nat => ⟨[(9, tbls (mrgF m)), (13, pm b13), (78, .sl 5 m.acts actC), (79, it (m.acts.length : Nat)), (80, it i), (86, terms a.eff.delta), (87, it (a.eff.delta.length : Nat)), (88, it k)], [blkR b13 86 (actC a)]⟩) (fun k => k ≤ a.eff.delta.length ∧ ∀ p ∈ a.eff.delta.take k, -1000 ≤ p.2 ∧ p.2 ≤ 1000) (fun k => a.eff.delta.length - k) 0 xE ⟨Nat.zero_le _, by simp⟩ ?_
  rintro k ⟨hk2, hd⟩
  by_cases hkn : k < a.eff.delta.length
  ·obtain ⟨p, hp⟩ := get_of hkn
   repeat' (first|refine Sp.h ?_|refine Lk.r rfl ?_|refine Rf.mk rfl ?_|refine xA ?_|refine xB ?_|(refine Bd.mk ?_ ?_ <;> intro _)|refine All.mk fun _=>?_|refine xT ?_|refine xI ?_|refine Ch.l ⟨rfl, rfl⟩ ?_|(apply SetAsk.r;focus repeat' constructor)|refine xN ?_|refine xO ?_|fail)
   all_goals first
    | exact ⟨_, _, .one (.same (.z)), _, rfl, rfl, fun h => by cases h⟩
    | exact PA.lp (k + 1) xE ⟨⟨hkn, all_succ hp hd ⟨by omega, by omega⟩⟩, by omega⟩
  have hke : k = a.eff.delta.length := by omega
  subst hke
  rw [List.take_length] at hd
  repeat' (first|refine Sp.h ?_|refine Lk.r rfl ?_|refine Rf.mk rfl ?_|refine xB ?_|refine Im.mk fun _=>?_|refine xT ?_|fail)
  refine CA.loop (fun k : Nat => ⟨[(9, tbls (mrgF m)), (78, .sl 5 m.acts actC), (79, it (m.acts.length : Nat)), (80, it i), (103, .sl 3 a.eff.updates updC), (104, it (a.eff.updates.length : Nat)), (105, it k)], []⟩) (fun k => k ≤ a.eff.updates.length ∧ ∀ u ∈ a.eff.updates.take k, ∀ (i : Nat) t, u.2.1 = i → (mrgF m)[i]? = some t → FitO t u) (fun k => a.eff.updates.length - k) 0 xE ⟨Nat.zero_le _, by simp⟩ ?_
  rintro k ⟨hk, hb⟩
  by_cases hkn : k < a.eff.updates.length
  ·obtain ⟨u, hu⟩ := get_of hkn
   obtain ⟨u1, u2⟩ := heo.u u (List.mem_of_getElem? hu)
   obtain ⟨t, ht⟩ := get_of (l := mrgF m) (i := u.2.1.toNat) (by omega)
   obtain ⟨uk, uc, uv⟩ := u
   simp only at u1 u2 ht
   (repeat' (first|(show CA _ _ (Code.region 29 _ _) _ _;apply Stopped.out)|refine Sp.h ?_|refine Lk.r rfl ?_|refine Rf.mk rfl ?_|refine xA ?_|refine All.mk fun _=>?_|refine xT ?_|refine xI ?_|(apply Ix.r;(focus assumption);(focus omega))|refine Ch.l ⟨rfl, rfl⟩ ?_|(apply SetAsk.r;focus repeat' constructor)|refine xN ?_|fail));any_goals apply Stopped.mk
   rename_i b17 b18
   refine CA.cut (fun b : Bool => ⟨[(9, tbls (mrgF m)), (17, pm b17), (18, pm b18), (19, bl b), (78, .sl 5 m.acts actC), (79, it (m.acts.length : Nat)), (80, it i), (103, .sl 3 a.eff.updates updC), (104, it (a.eff.updates.length : Nat)), (105, it k)], [blkR b17 90 (updC (uk, uc, uv)), blkR b18 94 (tblC t)]⟩) (fun b => b = true ↔ isSt t.kind) ?_ ?_
   ·repeat' (first|refine Sp.h ?_|refine Lk.r rfl ?_|refine Rf.mk rfl ?_|refine xA ?_|refine xB ?_|(refine Bd.mk ?_ ?_ <;> intro _)|refine xT ?_|fail)
    all_goals exact PA.lp _ xE (by unfold isSt;simp;omega)
   rintro b hb1
   simp only
   (repeat' (first|(show CA _ _ (Code.region 30 _ _) _ _;apply Stopped.out)|refine Sp.h ?_|fail));any_goals apply Stopped.mk
   refine CA.cut (fun c : Bool => ⟨[(9, tbls (mrgF m)), (78, .sl 5 m.acts actC), (79, it (m.acts.length : Nat)), (80, it i), (103, .sl 3 a.eff.updates updC), (104, it (a.eff.updates.length : Nat)), (105, it k), (151, bl c)], []⟩) (fun c => c = false → FitO t (uk, uc, uv)) ?_ ?_
   ·have hf : FitO t (uk, uc, uv) ↔ (b = true ↔ uk = 0 ∨ uk = 1) ∧ (b ≠ true → t.lo ≤ uv ∧ uv ≤ t.hi) := by unfold FitO;simp only;rw [← hb1]
    cases b
    all_goals repeat' (first|refine Sp.h ?_|refine Lk.r rfl ?_|refine Rf.mk rfl ?_|refine xA ?_|refine xB ?_|(refine Bd.mk ?_ ?_ <;> intro _)|refine xT ?_|fail)
    all_goals exact PA.lp _ xE (by rw [hf];first|(simp;done)|(simp;omega)|(simp at *;omega))
   rintro c hc
   simp only
   cases c
   ·repeat' (first|refine Sp.h ?_|refine Lk.r rfl ?_|refine Rf.mk rfl ?_|refine xO ?_|fail)
    refine PA.lp (k + 1) xE ⟨⟨hkn, all_succ hu hb fun j t' hj ht' => ?_⟩, by omega⟩
    have : uc.toNat = j := by simp only at hj;omega
    rw [this] at ht
    rw [ht] at ht';cases ht'
    exact hc rfl
   ·repeat' (first|refine Sp.h ?_|refine Lk.r rfl ?_|refine Rf.mk rfl ?_|refine xN ?_|fail)
    exact ⟨_, _, .one (.same (.z)), _, rfl, rfl, fun h => by cases h⟩
  have hke : k = a.eff.updates.length := by omega
  subst hke
  rw [List.take_length] at hb
  repeat' (first|refine Sp.h ?_|refine Lk.r rfl ?_|refine Rf.mk rfl ?_|refine xB ?_|refine xO ?_|fail)
  exact PA.lp (i + 1) xE ⟨⟨hin, all_succ hx hac ⟨hb, hd⟩⟩, by omega⟩
 have hie : i = m.acts.length := by omega
 subst hie
 rw [List.take_length] at hac
 repeat' (first|refine Sp.h ?_|refine Lk.r rfl ?_|refine Rf.mk rfl ?_|refine xB ?_|refine xN ?_|fail)
 exact ⟨_, _, .one (.same (.z)), _, rfl, rfl, fun _ => ⟨⟨⟨hm, hf, hc, fun a h => (hac a h).1, hev⟩, by omega, hln, ha, fun a h => (hac a h).2⟩, by omega⟩⟩
end Go.Proofs.YtajenkpjcbaadaaGreat
namespace Go.Proofs.YtajenkpjcbaadaaGreat
open Go Go.CF
set_option maxRecDepth 20000
set_option maxHeartbeats 4000000 in
theorem within_p {l : List EvS} {c : List Int} (hc : ClosedE l) (hl : l.length ≤ 1000) (hv : ValC c) (hcl : c.length = n0 l) : CallP Tryz.prog 8 [evs l, ints c] (.tup [evs (cutL l (partC l c)), ints (partC l c)]) := by
 have hk := clock_z (n := c.length) (l := l) hv.2 hc fun e he => by rw [(hc.2.2.1 e he).2, hcl]
 have hkv : ValC (clkE c.length l) := clkE_val hv.2 fun e he => formed_num (hc.2.2.1 e he).1
 have hm := meet_z2 hv hkv (by rw [clkE_len])
 obtain ⟨p1, p2⟩ := part1_ok hc hv hcl
 have hcu := cut_z l (part1 l c) hl
 have hcu2 := cut_z l (partC l c) hl
 have hxs : ∀ x ∈ cutL l (part1 l c), ValC x.past ∧ x.past.length = n0 l := fun x hx => by
  have := hc.2.2.1 x (mem_cut.1 hx).1
  exact ⟨this.1.1, this.2⟩
 obtain ⟨xs, hxse⟩ : ∃ xs, xs = cutL l (part1 l c) := ⟨_, rfl⟩
 have hpc : partC l c = xs.foldl (fun k x => joinC k x.past) (part1 l c) := by rw [hxse];rfl
 rw [← hxse] at hxs hcu
 refine CallA.of pg ord8 Tryz.func8 rfl Tryz.ntmps8 Tryz.results8 rfl fun h0 G0 O0 => ?_
 repeat' (first|refine Sp.h ?_|refine Lk.r rfl ?_|refine Rf.mk rfl ?_|refine xA ?_|refine Im.mk fun _=>?_|refine All.mk fun _=>?_|(apply Fk.r;focus repeat' first|infer_instance|constructor)|refine Rf.mk ⟨rfl, rfl, rfl⟩ ?_|(apply Cl.p (hk);focus repeat' constructor))
 (apply Cl.fz;(focus repeat' (first|exact FZ.nil|(apply FZ.fz;(focus repeat constructor);(focus first|omega|decide|exact Nat.le_of_ble_eq_true rfl|(simp <;> omega)))|apply FZ.agg|apply FZ.same)))
 (apply Cl.p (hm);(focus repeat' (first|exact Lend.nil|(apply Lend.mp;(focus rfl))|fail)))
 rw [show zipC min c (clkE c.length l) = part1 l c from rfl]
 repeat' (first|refine Sp.h ?_|refine Lk.r rfl ?_|refine Rf.mk rfl ?_|refine Im.mk fun _=>?_|(apply Cl.p (hcu);focus repeat' constructor))
 refine CA.loop (fun x : Nat × List Int => ⟨[(0, evs l), (1, ints x.2), (28, evs xs), (29, it (xs.length : Nat)), (30, it x.1)], []⟩) (fun x => x.1 ≤ xs.length ∧ x.2 = (xs.take x.1).foldl (fun k x => joinC k x.past) (part1 l c)) (fun x => xs.length - x.1) (0, part1 l c) xE ⟨Nat.zero_le _, rfl⟩ ?_
 rintro ⟨i, k⟩ ⟨hi, hk⟩
 simp only at hi hk
 simp only
 obtain ⟨f1, f2, -⟩ := fold_has (xs.take i) (part1 l c) (fun x hx => hxs x (List.mem_of_mem_take hx)) p1 p2
 rw [← hk] at f1 f2
 by_cases hin : i < xs.length
 ·obtain ⟨e, he⟩ := get_of hin
  obtain ⟨g1, g2⟩ := hxs e (List.mem_of_getElem? he)
  have hj := join_z2 f1 g1 (by omega)
  repeat' (first|refine Sp.h ?_|refine Lk.r rfl ?_|refine Rf.mk rfl ?_|refine xA ?_|refine All.mk fun _=>?_|refine xT ?_|refine xI ?_|refine Ch.l ⟨rfl, rfl⟩ ?_|(apply SetAsk.r;focus repeat' constructor)|(apply Fk.r;focus repeat' first|infer_instance|constructor)|refine xN ?_|refine Rf.mk ⟨rfl, rfl, rfl⟩ ?_|fail)
  (apply Cl.fz;(focus repeat' (first|exact FZ.nil|(apply FZ.fz;(focus repeat constructor);(focus first|omega|decide|exact Nat.le_of_ble_eq_true rfl|(simp <;> omega)))|apply FZ.agg|apply FZ.same)))
  (apply Cl.p (hj);(focus repeat' (first|exact Lend.nil|(apply Lend.mp;(focus rfl))|fail)))
  repeat' (first|refine Sp.h ?_|refine Lk.r rfl ?_|refine Rf.mk rfl ?_|refine xO ?_|fail)
  exact PA.lp (i + 1, joinC k e.past) xE ⟨⟨hin, by simp only;rw [List.take_add_one, he, List.foldl_append, ← hk];rfl⟩, by simp only;omega⟩
 ·have hie : i = xs.length := by omega
  subst hie
  rw [List.take_length, ← hpc] at hk
  subst hk
  repeat' (first|refine Sp.h ?_|refine Lk.r rfl ?_|refine Rf.mk rfl ?_|refine xB ?_|refine xN ?_|(apply Cl.p (hcu2);focus repeat' constructor))
  exact Fin.p rfl rfl
end Go.Proofs.YtajenkpjcbaadaaGreat
namespace Go.Proofs.YtajenkpjcbaadaaGreat
open Go Go.CF
set_option maxRecDepth 20000
/-! ### The model -/
def cn8 : ModS := ⟨[], [tC], [⟨#[99]⟩], [⟨0, 0, ⟨[(0, -1)], 0⟩, 0, 0⟩, ⟨0, 0, ⟨[(0, 1)], 9⟩, 0, 0⟩], [⟨⟨#[111]⟩, false, []⟩], [⟨0, [], ⟨[(0, 1)], [], []⟩⟩], []⟩
theorem cn8_a : CallA Tryz.prog 31 [] [] fun r own => ∃ vt vf t1 t2 vc vo d1 va, r = .agg [nl0, .ow vt, .ow vf, .ow vc, .ow vo, .ow va, nl0] ∧ own = [
  arrR va 86 5 [[it 0, nl0, .ow d1, nl0, nl0]] id,
  arrR d1 88 2 [[it 0, it 1]] id,
  arrR vo 150 3 [[sv ⟨#[111]⟩, bl false, nl0]] id,
  arrR vc 148 6 [[it 0, it 0, .ow t1, it 0, it 0, it 0], [it 0, it 0, .ow t2, it 9, it 0, it 0]] id,
  arrR t2 143 2 [[it 0, it 1]] id,
  arrR t1 143 2 [[it 0, it (-1)]] id,
  arrR vf 9 1 [[sv ⟨#[99]⟩]] id,
  arrR vt 94 6 [[sv ⟨#[99]⟩, it 1, nl0, it 0, it 9, it 0]] id] := by
 refine CallA.of pg ord31 Tryz.func31 rfl Tryz.ntmps31 Tryz.results31 rfl fun h0 G0 O0 => ?_
 repeat' (first|refine Sp.h ?_|refine Lk.r rfl ?_|refine Rf.mk rfl ?_|refine All.mk fun _=>?_|refine xT ?_|(apply SetAsk.r;focus repeat' constructor)|(apply Fk.r;focus repeat' first|infer_instance|constructor)|refine xN ?_|refine Rf.mk ⟨rfl, rfl, rfl⟩ ?_|fail)
 exact ⟨_, _, .one (.same (.z)), _, _, _, _, _, _, _, _, rfl, rfl⟩
theorem cn8_p : CallP Tryz.prog 31 [] (mdl cn8) := by
 refine CallA.fx cn8_a ?_
 rintro _ _ ⟨vt, vf, t1, t2, vc, vo, d1, va, rfl, rfl⟩
 repeat' (first
  | exact FX.nil
  | (apply FX.sl;(focus repeat constructor);(focus exact Nat.le_of_ble_eq_true rfl))
  | apply FX.agg
  | (apply FX.le;(focus first|exact ALe.nil|exact ALe.refl _)))
theorem cn8_mrg : mrgF cn8 = [] := by simp [mrgF, mrgL, cn8, isStrict, tC]
theorem cn8_str : strF cn8 = 1 := by simp [strF, strN, cn8, isStrict, szF, prodF, tC]
theorem cn8_lay : LayOK cn8.sorts cn8.tables := by
 refine ⟨by simp [cn8], fun x hx => by simp [cn8] at hx, by simp [cn8], fun t ht => ?_⟩
 simp only [cn8, List.mem_cons, List.not_mem_nil, or_false] at ht
 subst ht
 simp [TabOK, ColOK, Sound, cn8, tC]
theorem cn8_ok : MOK cn8 := by
 refine ⟨cn8_lay, by simp [cn8], by simp [cn8], fun a ha => ?_, by rw [cn8_str];decide, by rw [cn8_mrg];decide⟩
 simp only [cn8, List.mem_cons, List.not_mem_nil, or_false] at ha
 subst ha
 refine ⟨by simp, by simp, by simp, fun p hp => ?_, fun p hp => by simp at hp⟩
 simp only [List.mem_cons, List.not_mem_nil, or_false] at hp
 subst hp
 rw [cn8_str];decide
/-! ### Three events -/
def xa : EvS := ⟨0, 1, 1, [0, 0], 0, 0, 0, 0, 0, 0, 0, 0, 1⟩
def xc : EvS := ⟨0, 2, 2, [1, 0], 0, 0, 0, 0, 0, 0, 0, 0, 2⟩
def xb : EvS := ⟨1, 1, 1, [0, 0], 0, 0, 0, 0, 0, 0, 0, 0, 1⟩
abbrev x3 : List EvS := [xa, xc, xb]
theorem xa_f : FormedE xa := ⟨val2 0 0 (by decide) (by decide), by decide, ⟨0, rfl, rfl⟩, by decide, by unfold Btw xa;decide, .inl ⟨rfl, by unfold Sub0 Btw xa;decide, by unfold GiveZ xa;decide⟩⟩
theorem xc_f : FormedE xc := ⟨val2 1 0 (by decide) (by decide), by decide, ⟨1, rfl, rfl⟩, by decide, by unfold Btw xc;decide, .inl ⟨rfl, by unfold Sub0 Btw xc;decide, by unfold GiveZ xc;decide⟩⟩
theorem xb_f : FormedE xb := ⟨val2 0 0 (by decide) (by decide), by decide, ⟨0, rfl, rfl⟩, by decide, by unfold Btw xb;decide, .inl ⟨rfl, by unfold Sub0 Btw xb;decide, by unfold GiveZ xb;decide⟩⟩
theorem x3_mem {e : EvS} (h : e ∈ x3) : e = xa ∨ e = xc ∨ e = xb := by simpa using h
theorem x3_f {e : EvS} (h : e ∈ x3) : FormedE e := by
 rcases x3_mem h with rfl|rfl|rfl
 ·exact xa_f
 ·exact xc_f
 ·exact xb_f
theorem x3_uniq : Uniq x3 := uniq_pair.2 (by simp [nm, xa, xc, xb])
theorem x3_closed : ClosedE x3 := by
 refine ⟨by simp, x3_uniq, fun e he => ⟨x3_f he, by rcases x3_mem he with rfl|rfl|rfl <;> rfl⟩, fun e he r n hr i h1 h2 => ?_⟩
 rcases x3_mem he with rfl|rfl|rfl
 ·have := List.mem_of_getElem? hr;simp [xa] at this;omega
 ·match r with
  | 0 =>
   simp [xc] at hr
   refine ⟨xa, by simp, rfl, by show (1 : Int) = i;omega, ⟨(alike2 _ _).2 ⟨xa_f.1, xc_f.1, rfl⟩, ins_2 (by decide) (by decide)⟩, by decide⟩
  | 1 => simp [xc] at hr;omega
  | r + 2 => simp [xc] at hr
 ·have := List.mem_of_getElem? hr;simp [xb] at this;omega
theorem x3_suit : SuitS cn8 [0] x3 := by
 refine ⟨⟨cn8_ok, ⟨by simp, fun e he => by rcases x3_mem he with rfl|rfl|rfl <;> simp [xa, xb, xc]⟩, x3_closed, fun a ha u hu i t _ ht => ?_, fun e he => ?_⟩, by simp, by rw [cn8_str];rfl, by simp, fun a ha p hp => ?_⟩
 ·rw [cn8_mrg] at ht;simp at ht
 ·exact ⟨x3_f he, by rcases x3_mem he with rfl|rfl|rfl <;> rfl, fun _ => by rcases x3_mem he with rfl|rfl|rfl <;> decide⟩
 ·simp only [cn8, List.mem_cons, List.not_mem_nil, or_false] at ha
  subst ha
  simp at hp;subst hp;decide
theorem no_dep {e : EvS} (h : e.past = [0, 0]) (d : EvS) : ¬ HasC e.past d.rep d.num := fun ⟨_, _, h1, x, hx, h2⟩ => by
 rw [h] at hx
 have := List.mem_of_getElem? hx
 simp at this
 omega
theorem x3_ab : ExtO x3 [xa, xc] := by
 have h1 : ExtO x3 [xa] := (ExtO.nil x3).snoc (e := xa) (by simp) (by simp) fun d _ hh => absurd hh (no_dep rfl d)
 refine h1.snoc (e := xc) (by simp) (by simp [xa, xc]) fun d hd hh => ?_
 rcases x3_mem hd with rfl|rfl|rfl
 ·exact List.mem_cons_self
 ·obtain ⟨_, _, _, x, hx, h2⟩ := hh
  simp [xc] at hx h2;omega
 ·obtain ⟨_, _, _, x, hx, h2⟩ := hh
  simp [xc, xb] at hx h2;omega
theorem x3_b : ExtO x3 [xb] := (ExtO.nil x3).snoc (e := xb) (by simp) (by simp) fun d _ hh => absurd hh (no_dep rfl d)
end Go.Proofs.YtajenkpjcbaadaaGreat
namespace Go.Proofs.YtajenkpjcbaadaaGreat
open Go Go.CF
set_option maxRecDepth 20000
structure X3R (pa pb : PrS) (Xa Xb : List EvS) (a' b' : PrS) : Prop where
 ta : takeF cn8 [xa, xc] (newP cn8 2 [0]) = (0, pa, Xa)
 tb : takeF cn8 [xb] (newP cn8 2 [0]) = (0, pb, Xb)
 la : Xa.length = 2
 lb : Xb.length = 1
 rk : RecK cn8 2 200 10 pa pb 2 3 a' b'
 ca : a'.s.now.clock = [2, 1]
 sb : b'.s.now.state = [3]
theorem x3_run : ∃ pa pb Xa Xb a' b', X3R pa pb Xa Xb a' b' := by
 have hs := x3_suit
 obtain ⟨Xa, pa, ta1, ta2⟩ := takeF_inv (l' := [xa, xc]) hs (fun e he => by simp at he;rcases he with rfl|rfl <;> simp) (newP_inv hs)
 obtain ⟨Xb, pb, tb1, tb2⟩ := takeF_inv (l' := [xb]) hs (fun e he => by simp at he;subst he;simp) (newP_inv hs)
 obtain ⟨a1, a2, a3⟩ := tak_all hs rfl ta2 (S := [xa, xc]) x3_ab (fun e => Iff.rfl)
 obtain ⟨b1, b2, b3⟩ := tak_all hs rfl tb2 (S := [xb]) x3_b (fun e => Iff.rfl)
 have ia := ta2.inv
 have ib := tb2.inv
 have ea := ta2.evs
 have eb := tb2.evs
 rw [List.nil_append] at ia ib
 have ea' : pa.s.evs = Xa := ea
 have eb' : pb.s.evs = Xb := eb
 have hF : Free cn8 [0] x3 Xa Xb pa pb := ⟨ia, ib, a3, b3, fun e h _ => by rw [ea'];exact h, fun e h _ => by rw [eb'];exact h⟩
 obtain ⟨R, S, a', b', Ya, Yb, r1, r2, r3, r4⟩ := rec_ex hs 10 (by decide) _ Xa Xb pa pb (Nat.le_refl _) ia ib hF.ca hF.cb
 obtain ⟨c1, c2, _, _⟩ := rec_count hs 10 (by decide) r1 Xa Xb hF
 have o1 : offL Xa Xb = Xb := List.filter_eq_self.2 fun e he => by
  have := (b1 e).1 he
  simp only [List.mem_singleton] at this
  subst this
  refine decide_eq_true fun h9 => ?_
  have := (a1 _).1 h9
  simp [xa, xb, xc] at this
 have o2 : offL Xb Xa = Xa := List.filter_eq_self.2 fun e he => by
  refine decide_eq_true fun h9 => ?_
  have h8 := (b1 e).1 h9
  simp only [List.mem_singleton] at h8
  subst h8
  have := (a1 _).1 he
  simp [xa, xb, xc] at this
 rw [o1, o2, a2, b2] at c1 c2
 have hmem : ∀ e, e ∈ Xa ++ Ya ↔ e ∈ x3 := fun e => by
  constructor
  ·exact fun h => r4.ia.buf.ext.sub e h
  ·intro h
   rcases x3_mem h with rfl|rfl|rfl
   ·exact List.mem_append_left _ ((a1 _).2 (by simp))
   ·exact List.mem_append_left _ ((a1 _).2 (by simp))
   ·exact (r4.same _).2 (List.mem_append_left _ ((b1 _).2 (by simp)))
 have hp1 : (Xa ++ Ya).Perm x3 := (List.perm_ext_iff_of_nodup (extO_nodup r4.ia.buf.ext) (uniq_nodupE x3_uniq)).2 hmem
 have hp2 : (Xb ++ Yb).Perm x3 := (List.perm_ext_iff_of_nodup (extO_nodup r4.ib.buf.ext) (uniq_nodupE x3_uniq)).2 fun e => (r4.same e).symm.trans (hmem e)
 refine ⟨pa, pb, Xa, Xb, a', b', ta1, tb1, a2, b2, ?_, ?_, ?_⟩
 ·have e1 : R = 2 := c1
  have e2 : S = 3 := c2
  rw [e1, e2] at r1
  exact r1
 ·rw [r4.ia.sto.clock, clkE_perm hp1];rfl
 ·rw [r4.ib.sto.state, state_perm hp2];rfl
set_option maxHeartbeats 8000000 in
theorem awake38_p : CallP Tryz.prog 5 [] (bl true) := by
 obtain ⟨pa, pb, Xa, Xb, a', b', hR⟩ := x3_run
 have hc := cn8_p
 have hs := x3_suit
 have hpe := peer_a cn8 2 [0] cn8_ok (by decide) (by rw [cn8_str];rfl) (insS_ld (by simp))
 have f0 := newP_fine (m := cn8) (n := 2) (ld := [0]) (by decide) (by rw [cn8_str];rfl)
 have h1 := fun pb' sp bb mb v vc => take_a pb' sp bb mb cn8 v vc 2 0 (newP cn8 2 [0]) [xa, xc] cn8_ok f0.ok (by decide) (by decide)
 have h2 := fun pb' sp bb mb v vc => take_a pb' sp bb mb cn8 v vc 2 0 (newP cn8 2 [0]) [xb] cn8_ok f0.ok (by decide) (by decide)
 simp only [hR.ta, hR.tb] at h1 h2
 have h3 := fun p1 s1 q1 m1 v1 w1 p2 s2 q2 m2 v2 w2 => recon_a p1 s1 q1 m1 v1 w1 p2 s2 q2 m2 v2 w2 cn8 2 200 pa pb a' b' 10 2 3 cn8_ok hR.rk (by decide) (by decide) (by decide) (by decide) (by decide)
 have hla := hR.la
 have hlb := hR.lb
 have e21 := equal_p [2, 1] [2, 1]
 have e3 := equal_p [3] [3]
 rw [decide_eq_true rfl] at e21 e3
 refine CallA.of pg ord5 Tryz.func5 rfl Tryz.ntmps5 Tryz.results5 rfl fun h0 G0 O0 => ?_
 repeat' (first|refine Sp.h ?_|refine Lk.r rfl ?_|refine Rf.mk rfl ?_|refine All.mk fun _=>?_|(apply Fk.r;focus repeat' first|infer_instance|constructor)|refine Rf.mk ⟨rfl, rfl, rfl⟩ ?_|(apply Cl.p (hc);(focus repeat' (first|exact Lend.nil|fail))))
 apply Cl.fx [mdl cn8, it 2, ints [0]]
 focus (repeat' (first|exact FX.nil|(apply FX.sl;(focus repeat constructor);(focus exact Nat.le_of_ble_eq_true rfl))|(apply FX.le;(focus first|exact ALe.refl _|exact ALe.nil))|apply FX.agg|apply FX.tup))
 refine xW (hpe) ?_
 rintro _ _ ⟨p1, s1, q1, m1, v1, w1, rfl, rfl⟩
 repeat' (first|refine Sp.h ?_|refine Lk.r rfl ?_|refine Rf.mk rfl ?_|refine All.mk fun _=>?_|(apply Fk.r;focus repeat' first|infer_instance|constructor)|refine Rf.mk ⟨rfl, rfl, rfl⟩ ?_|(apply Cl.p (hc);(focus repeat' (first|exact Lend.nil|fail))))
 apply Cl.fx [mdl cn8, it 2, ints [0]]
 focus (repeat' (first|exact FX.nil|(apply FX.sl;(focus repeat constructor);(focus exact Nat.le_of_ble_eq_true rfl))|(apply FX.le;(focus first|exact ALe.refl _|exact ALe.nil))|apply FX.agg|apply FX.tup))
 refine xW (hpe) ?_
 rintro _ _ ⟨p2, s2, q2, m2, v2, w2, rfl, rfl⟩
 repeat' (first|refine Sp.h ?_|refine Lk.r rfl ?_|refine Rf.mk rfl ?_|refine xB ?_|refine All.mk fun _=>?_|(apply Fk.r;focus repeat' first|infer_instance|constructor)|refine Rf.mk ⟨rfl, rfl, rfl⟩ ?_|fail)
 apply Cl.fx [pm p1, evs [xa, xc]]
 focus (repeat' (first|exact FX.nil|(apply FX.sl;(focus repeat constructor);(focus exact Nat.le_of_ble_eq_true rfl))|(apply FX.le;(focus first|exact ALe.refl _|exact ALe.nil))|apply FX.agg|apply FX.tup))
 have h1' := h1 p1 s1 q1 m1 v1 w1
 refine xW (h1') ?_
 rintro _ _ ⟨rfl, v1', rfl⟩
 repeat' (first|refine Sp.h ?_|refine Lk.r rfl ?_|refine Rf.mk rfl ?_|refine All.mk fun _=>?_|(apply Fk.r;focus repeat' first|infer_instance|constructor)|refine Rf.mk ⟨rfl, rfl, rfl⟩ ?_|fail)
 apply Cl.fx [pm p2, evs [xb]]
 focus (repeat' (first|exact FX.nil|(apply FX.sl;(focus repeat constructor);(focus exact Nat.le_of_ble_eq_true rfl))|(apply FX.le;(focus first|exact ALe.refl _|exact ALe.nil))|apply FX.agg|apply FX.tup))
 have h2' := h2 p2 s2 q2 m2 v2 w2
 refine xW (h2') ?_
 rintro _ _ ⟨rfl, v2', rfl⟩
 have h3' := h3 p1 s1 q1 m1 v1' w1 p2 s2 q2 m2 v2' w2
 repeat' (first|refine Sp.h ?_|refine Lk.r rfl ?_|refine Rf.mk rfl ?_|fail)
 refine xW (h3') ?_
 rintro _ _ ⟨rfl, v1, v2, rfl⟩
 have g1 := pstore_a p1 s1 q1 m1 cn8 v1 w1 a'
 have g2 := pstore_a p2 s2 q2 m2 cn8 v2 w2 b'
 have g3 := sclock_p s1 cn8 a'.s.base v1 a'.s.now (by rw [hR.ca];decide)
 have g4 := sstate_p s2 cn8 b'.s.base v2 b'.s.now (by rw [hR.sb];decide)
 rw [hR.ca] at g3
 rw [hR.sb] at g4
 repeat' (first|refine Sp.h ?_|refine Lk.r rfl ?_|refine Rf.mk rfl ?_|refine xA ?_|refine Im.mk fun _=>?_|fail)
 refine xW (g1) ?_
 rintro _ _ ⟨rfl, rfl⟩
 repeat' (first|refine Sp.h ?_|refine Lk.r rfl ?_|refine Rf.mk rfl ?_|refine xA ?_|fail)
 refine xW (g3) ?_
 rintro _ _ ⟨rfl, rfl⟩
 repeat' (first|refine Sp.h ?_|refine Lk.r rfl ?_|refine Rf.mk rfl ?_|refine xA ?_|refine All.mk fun _=>?_|(apply Fk.r;focus repeat' first|infer_instance|constructor)|refine Rf.mk ⟨rfl, rfl, rfl⟩ ?_|fail)
 (apply Cl.lend (e21);(focus repeat' (first|exact Lend.nil|apply Lend.keep|(apply Lend.lendm;(focus repeat constructor);(focus rfl);(focus first|omega|decide|(simp;omega)|exact Nat.le_of_ble_eq_true rfl))|fail)))
 repeat' (first|refine Sp.h ?_|refine Lk.r rfl ?_|refine Rf.mk rfl ?_|refine xA ?_|fail)
 refine xW (g2) ?_
 rintro _ _ ⟨rfl, rfl⟩
 repeat' (first|refine Sp.h ?_|refine Lk.r rfl ?_|refine Rf.mk rfl ?_|fail)
 refine xW (g4) ?_
 rintro _ _ ⟨rfl, rfl⟩
 repeat' (first|refine Sp.h ?_|refine Lk.r rfl ?_|refine Rf.mk rfl ?_|refine All.mk fun _=>?_|(apply Fk.r;focus repeat' first|infer_instance|constructor)|refine Rf.mk ⟨rfl, rfl, rfl⟩ ?_|fail)
 (apply Cl.lend (e3);(focus repeat' (first|exact Lend.nil|apply Lend.keep|(apply Lend.lendm;(focus repeat constructor);(focus rfl);(focus first|omega|decide|(simp;omega)|exact Nat.le_of_ble_eq_true rfl))|fail)))
 repeat' (first|refine Sp.h ?_|refine Lk.r rfl ?_|refine xN ?_|fail)
 all_goals exact Fin.p rfl rfl
end Go.Proofs.YtajenkpjcbaadaaGreat
namespace Go.Proofs.YtajenkpjcbaadaaGreat
open Go Go.CF
set_option maxRecDepth 20000
abbrev u8 (x : Int) : AV := .val (.int .u8 x)
end Go.Proofs.YtajenkpjcbaadaaGreat
namespace Go.CF
open Go
section
variable {Γ : Cx} {e : EA} {o : List Res} {N : NA} {c : Cls} {d : Tmp} {ty : TypeId} {x y : Operand} {t u : TypeId} {kk : IntKind} {i j : Int}
instance : Sp (Ap2 Γ c d (.binOp .and t x y u) ty e o N x (.val (.int kk i)) y (.val (.int kk j))) (All fun r : Int => N ((d, .val (.int kk r)) :: e) o) := ⟨fun hn => pu2 fun env h G u u' h1 h1' h2 h2' => by
 have g1 : ev env x = some (.int kk i) := by rw [h1];exact congrArg some h2
 have g2 : ev env y = some (.int kk j) := by rw [h1'];exact congrArg some h2'
 refine ⟨.val (.int kk _), .int kk _, rfl, hn.ok _, fun N' hk => .ofPu (pu_int g1 g2 fun w => by rw [binOp_and];simp only [Op.intBits];rfl) hk⟩⟩
end
end Go.CF
namespace Go.Proofs.YtajenkpjcbaadaaGreat
open Go Go.CF
set_option maxRecDepth 20000
def cmpO : Nat → Ord × (Nat → Cls) := fun id => bif Nat.beq id 14 then (.one 0 (.one 1 (.one 2 (.one 3 (.one 6 (.one 7 (.one 8 (.alt 4 (.one 5 (.one 9 (.one 10 (.one 11 .done)))) (.alt 5 (.one 4 (.one 9 (.one 10 (.one 11 .done)))) (.none))))))))), clOf [.read, .pure, .pure, .pure, .loud, .ext, .pure, .pure, .pure, .loud, .pure, .pure]) else (.done, clOf [])
theorem take_base {m : ModS} {ld : List Int} {l l' X : List EvS} {P : PrS} (hs : SuitS m ld l) (hl' : ∀ e ∈ l', e ∈ l) (h : takeF m l' (newP m (n0 l) ld) = (0, P, X)) : P.s.base = stN m (n0 l) ld [] := by
 obtain ⟨_, p', e1, e2⟩ := takeF_inv hs hl' (newP_inv hs)
 rw [h] at e1
 cases e1
 exact e2.base
theorem base_ok {m : ModS} {n : Nat} {ld : List Int} (hm : MOK m) (hn : 1 ≤ n ∧ n ≤ 5) (hl : ld.length = strF m) : BasOK m n (stN m n ld []) := by
 have hmr := hm.mrg
 refine ⟨valC_zero hn, by simp [stN, clkE], hl, ⟨by simp only [stN, List.foldl_nil, List.length_replicate];omega, fun g hg => ?_⟩, List.Pairwise.nil, Nat.zero_le _⟩
 simp only [stN, List.foldl_nil] at hg
 rw [(List.mem_replicate.1 hg).2]
 simp [mg0]
theorem closedR_z {l : List EvS} {k : List Int} (hc : ClosedE l) (hk : Part l k) : CallP Tryz.prog 29 [evs l, ints k] (ints k) := by
 refine CallA.fz (T := 3) (by have := hk.val.2.2;omega) (closedR_o (msr k) rfl (.stop fun e he ho => ho.2.2 (hk.sub e (mem_cut.2 ⟨he, ho.1⟩))) ⟨hk.val, fun e he => ?_⟩)
 have := hc.2.2.1 e he
 exact ⟨this.1, by rw [this.2, hk.len]⟩
structure CmpI (m : ModS) (ld : List Int) (l : List EvS) (k : List Int) (P p : PrS) : Prop where
 inv : InvP m ld l P.s.evs p
 nil : p.H = []
 cov : ∀ e ∈ P.s.evs, ¬ HasC k e.rep e.num → e ∈ p.s.evs
set_option maxHeartbeats 16000000 in
theorem compacted38_p (m : ModS) (ld : List Int) (l : List EvS) (a b : List Int) (wh : Int) : CallP Tryz.prog 4 [mdl m, ints ld, evs l, ints a, ints b, u8 wh] (bl true) := by
 have haw := awake38_p
 have hsu := suits38_c m ld l
 refine CallA.of pg cmpO Tryz.func4 rfl Tryz.ntmps4 Tryz.results4 rfl fun h0 G0 O0 => ?_
 repeat' (first|refine Sp.h ?_|refine Lk.r rfl ?_|refine Rf.mk rfl ?_|refine xA ?_|refine All.mk fun _=>?_|refine xT ?_|refine Ch.l ⟨rfl, rfl⟩ ?_|(apply Cl.p (haw);(focus repeat' (first|exact Lend.nil|fail))))
 rename_i b6
 refine xW (hsu) ?_
 rintro _ _ ⟨s, rfl, rfl, hs⟩
 cases s
 ·repeat' (first|refine Sp.h ?_|refine Lk.r rfl ?_|refine Rf.mk rfl ?_|refine xB ?_|refine xN ?_|fail)
  exact Fin.p rfl rfl
 obtain ⟨hs, hl40⟩ := hs rfl
 obtain ⟨d, hd⟩ := get_of (l := l) (i := 0) hs.ne
 have hn0 : n0 l = d.past.length := by rw [n0, hd];rfl
 have hc := hs.e.2.2.1
 have hm := hs.e.1
 have hnr := n0_rng hc (List.mem_of_getElem? hd)
 have hva := validC_p a
 have hvb := validC_p b
 by_cases hv : ValC a
 rotate_left
 ·rw [decide_eq_false hv] at hva
  repeat' (first|refine Sp.h ?_|refine Lk.r rfl ?_|refine Rf.mk rfl ?_|refine xA ?_|refine xB ?_|refine xN ?_|(apply Cl.p (hva);focus repeat' constructor))
  all_goals exact Fin.p rfl rfl
 rw [decide_eq_true hv] at hva
 by_cases hv2 : ValC b
 rotate_left
 ·rw [decide_eq_false hv2] at hvb
  repeat' (first|refine Sp.h ?_|refine Lk.r rfl ?_|refine Rf.mk rfl ?_|refine xA ?_|refine xB ?_|refine xN ?_|(apply Cl.p (hva);focus (repeat' constructor);done)|(apply Cl.p (hvb);focus (repeat' constructor);done))
  all_goals exact Fin.p rfl rfl
 rw [decide_eq_true hv2] at hvb
 by_cases hal : a.length = n0 l
 rotate_left
 ·have hne : ¬ (a.length : Int) = (d.past.length : Int) := by omega
  repeat' (first|refine Sp.h ?_|refine Lk.r rfl ?_|refine Rf.mk rfl ?_|refine xA ?_|refine xB ?_|refine Im.mk fun _=>?_|refine xI ?_|refine xN ?_|(apply Cl.p (hva);focus (repeat' constructor);done)|(apply Cl.p (hvb);focus (repeat' constructor);done))
  all_goals exact Fin.p rfl rfl
 have hal' : (a.length : Int) = (d.past.length : Int) := by omega
 by_cases hbl : b.length = n0 l
 rotate_left
 ·have hne : ¬ (a.length : Int) = (b.length : Int) := by omega
  repeat' (first|refine Sp.h ?_|refine Lk.r rfl ?_|refine Rf.mk rfl ?_|refine xA ?_|refine xB ?_|refine Im.mk fun _=>?_|refine xI ?_|refine xN ?_|(apply Cl.p (hva);focus (repeat' constructor);done)|(apply Cl.p (hvb);focus (repeat' constructor);done))
  all_goals exact Fin.p rfl rfl
 have hbl' : (a.length : Int) = (b.length : Int) := by omega
 have hw := within_p hc (by omega) hv hal
 have hw2 := within_p hc (by omega) hv2 hbl
 obtain ⟨ac, hac⟩ : ∃ k, k = partC l a := ⟨_, rfl⟩
 obtain ⟨bc, hbc⟩ : ∃ k, k = partC l b := ⟨_, rfl⟩
 have hpa : Part l ac := by rw [hac];exact part_ok hc hv hal
 have hea : EvK l ac := by rw [hac];exact partC_ev hc hv hal
 have hpb : Part l bc := by rw [hbc];exact part_ok hc hv2 hbl
 have heb : EvK l bc := by rw [hbc];exact partC_ev hc hv2 hbl
 rw [← hac] at hw
 rw [← hbc] at hw2
 have hlab := hpa.len.trans hpb.len.symm
 obtain ⟨k, hk⟩ : ∃ k, k = meetC ac bc := ⟨_, rfl⟩
 have hpk : Part l k := by rw [hk];exact Part.meet hc hpa hpb
 have hek : EvK l k := by rw [hk];exact EvK.meet hlab hea heb
 have hme : CallP Tryz.prog 25 [clks [ac, bc]] (ints k) := by rw [hk];exact meet_z2 hpa.val hpb.val hlab
 (repeat' (first|(show CA _ _ (Code.region 7 _ _) _ _;apply Stopped.out)|refine Sp.h ?_|refine Lk.r rfl ?_|refine Rf.mk rfl ?_|refine xA ?_|refine Im.mk fun _=>?_|refine xI ?_|(apply Cl.p (hva);focus (repeat' constructor);done)|(apply Cl.p (hvb);focus (repeat' constructor);done)|(apply Cl.p (hw);focus (repeat' constructor);done)|(apply Cl.p (hw2);focus (repeat' constructor);done)));any_goals apply Stopped.mk
 repeat' (first|refine Sp.h ?_|refine Lk.r rfl ?_|refine Rf.mk rfl ?_|refine All.mk fun _=>?_|(apply Fk.r;focus repeat' first|infer_instance|constructor)|refine Rf.mk ⟨rfl, rfl, rfl⟩ ?_|fail)
 (apply Cl.fz;(focus repeat' (first|exact FZ.nil|(apply FZ.fz;(focus repeat constructor);(focus first|omega|decide|exact Nat.le_of_ble_eq_true rfl|(simp <;> omega)))|apply FZ.agg|apply FZ.same)))
 (apply Cl.p (hme);(focus repeat' (first|exact Lend.nil|(apply Lend.mp;(focus rfl))|fail)))
 repeat' (first|refine Sp.h ?_|refine Lk.r rfl ?_|refine Rf.mk rfl ?_|refine Im.mk fun _=>?_|fail)
 refine CA.loop (fun i : Nat => ⟨[(1, ints ld), (2, evs l), (3, ints a), (5, u8 wh), (6, pm b6), (13, evs (cutL l ac)), (14, ints ac), (15, evs (cutL l bc)), (16, ints bc), (17, ints k), (80, evs l), (81, it (l.length : Nat)), (82, it i)], [mR b6 m]⟩)
  (fun i => i ≤ l.length) (fun i => l.length - i) 0 xE (Nat.zero_le _) ?_
 intro i hi
 by_cases hin : i < l.length
 ·obtain ⟨z, hz⟩ := get_of hin
  have z1 := nameR_p z
  have z2 := hasC_p k z.rep z.num
  have z3 := insideR_p k z.past
  by_cases d1 : HasC k z.rep z.num
  ·rw [decide_eq_true d1] at z2
   repeat' (first|refine Sp.h ?_|refine Lk.r rfl ?_|refine Rf.mk rfl ?_|refine xA ?_|refine All.mk fun _=>?_|refine xT ?_|refine xI ?_|refine Ch.l ⟨rfl, rfl⟩ ?_|(apply SetAsk.r;focus repeat' constructor)|refine xN ?_|refine xO ?_|(apply Cl.p (z1);focus (repeat' constructor);done)|(apply Cl.p (z2);focus (repeat' constructor);done)|(apply Cl.p (z3);focus (repeat' constructor);done))
   all_goals exact PA.lp (i + 1) xE ⟨hin, by omega⟩
  rw [decide_eq_false d1] at z2
  by_cases d2 : Ins k z.past
  ·rw [decide_eq_true d2] at z3
   repeat' (first|refine Sp.h ?_|refine Lk.r rfl ?_|refine Rf.mk rfl ?_|refine xA ?_|refine xB ?_|refine All.mk fun _=>?_|refine xT ?_|refine xI ?_|refine Ch.l ⟨rfl, rfl⟩ ?_|(apply SetAsk.r;focus repeat' constructor)|refine xN ?_|refine xO ?_|(apply Cl.p (z1);focus (repeat' constructor);done)|(apply Cl.p (z2);focus (repeat' constructor);done)|(apply Cl.p (z3);focus (repeat' constructor);done))
   all_goals exact PA.lp (i + 1) xE ⟨hin, by omega⟩
  ·rw [decide_eq_false d2] at z3
   repeat' (first|refine Sp.h ?_|refine Lk.r rfl ?_|refine Rf.mk rfl ?_|refine xA ?_|refine xB ?_|refine All.mk fun _=>?_|refine xT ?_|refine xI ?_|refine Ch.l ⟨rfl, rfl⟩ ?_|(apply SetAsk.r;focus repeat' constructor)|refine xN ?_|(apply Cl.p (z1);focus (repeat' constructor);done)|(apply Cl.p (z2);focus (repeat' constructor);done)|(apply Cl.p (z3);focus (repeat' constructor);done))
   all_goals exact Fin.p rfl rfl
 have hie : i = l.length := by omega
 subst hie
 have hpA : CallA Tryz.prog 9 [mdl m, it (a.length : Nat), ints ld] [] fun r own => ∃ pb sp bb mb v vc, r = pm pb ∧ own = prR pb sp bb mb m v vc (newP m (n0 l) ld) := by rw [hal];exact peer_a m (n0 l) ld hm hnr hs.ln (insS_ld hs.ld)
 have hcla := cut_len l ac
 have hclb := cut_len l bc
 obtain ⟨X1, P, t1, t2, t3⟩ := got_part hs hpa (List.Perm.refl (cutL l ac))
 obtain ⟨X2, Q, u1, u2, u3⟩ := got_part hs hpb (List.Perm.refl (cutL l bc))
 have hPb := take_base hs (fun e he => (mem_cut.1 he).1) t1
 have hQb := take_base hs (fun e he => (mem_cut.1 he).1) u1
 have hfP := (newP_fine (m := m) (n := n0 l) (ld := ld) hnr hs.ln).ok
 have hT := fun p1 s1 q1 m1 v1 w1 => take_a p1 s1 q1 m1 m v1 w1 (n0 l) 0 (newP m (n0 l) ld) (cutL l ac) hm hfP hnr.2 (by omega)
 have hU := fun p1 s1 q1 m1 v1 w1 => take_a p1 s1 q1 m1 m v1 w1 (n0 l) 0 (newP m (n0 l) ld) (cutL l bc) hm hfP hnr.2 (by omega)
 rw [t1] at hT
 rw [u1] at hU
 have hcz := closedR_z hc hpk
 (repeat' (first|(show CA _ _ (Code.region 14 _ _) _ _;apply Stopped.out)|refine Sp.h ?_|refine Lk.r rfl ?_|refine Rf.mk rfl ?_|refine xB ?_|fail));any_goals apply Stopped.mk
 refine CA.cut (fun x : (Nat × Nat × Nat × Nat × Value × Value) × Nat × Nat × Nat × Nat × Value × Value => ⟨[(1, ints ld), (2, evs l), (5, u8 wh), (6, pm b6), (13, evs (cutL l ac)), (14, ints ac), (15, evs (cutL l bc)), (16, ints bc), (17, ints k), (20, pm x.1.1), (21, pm x.2.1)], mR b6 m :: (prR x.1.1 x.1.2.1 x.1.2.2.1 x.1.2.2.2.1 m x.1.2.2.2.2.1 x.1.2.2.2.2.2 (newP m (n0 l) ld) ++ prR x.2.1 x.2.2.1 x.2.2.2.1 x.2.2.2.2.1 m x.2.2.2.2.2.1 x.2.2.2.2.2.2 (newP m (n0 l) ld))⟩) (fun _ => True) ?_ ?_
 ·repeat' (first|refine Sp.h ?_|refine Lk.r rfl ?_|refine Rf.mk rfl ?_|refine OpK.r rfl ?_|refine Im.mk fun _=>?_|refine xT ?_|refine Ch.l ⟨rfl, rfl⟩ ?_|refine xD ?_|exact trivial|apply RA'.both|(((apply Cl.use (hpA);(focus repeat' constructor);(focus repeat' constructor);focus rfl));(rintro _ _ ⟨p1, s1, q1, m1, v1, w1, rfl, rfl⟩)))
  all_goals exact PA.lp ((_, _, _, _, _, _), _, _, _, _, _, _) xE trivial
 rintro ⟨⟨p1, s1, q1, m1, v1, w1⟩, p2, s2, q2, m2, v2, w2⟩ _
 simp only
 have hT1 := hT p1 s1 q1 m1 v1 w1
 have hU1 := hU p2 s2 q2 m2 v2 w2
 repeat' (first|refine Sp.h ?_|refine Lk.r rfl ?_|refine Rf.mk rfl ?_|refine xB ?_|fail)
 refine xW (hT1) ?_
 rintro _ _ ⟨rfl, v1', rfl⟩
 repeat' (first|refine Sp.h ?_|refine Lk.r rfl ?_|refine Rf.mk rfl ?_|fail)
 refine xW (hU1) ?_
 rintro _ _ ⟨rfl, v2', rfl⟩
 obtain ⟨sP, cP1, cP2, cP3⟩ := cmp_ok hs hpk hek t3.inv hPb fun e he hh => (t3.mem e).2 (mem_cut.2 ⟨he, ((has_meet hpa.val hpb.val hlab _ _).1 (by rw [← hk];exact hh)).1⟩)
 obtain ⟨sQ, cQ1, cQ2, cQ3⟩ := cmp_ok hs hpk hek u3.inv hQb fun e he hh => (u3.mem e).2 (mem_cut.2 ⟨he, ((has_meet hpa.val hpb.val hlab _ _).1 (by rw [← hk];exact hh)).2⟩)
 have iP0 : CmpI m ld l k P P := ⟨t3.inv, t3.nil, fun e he _ => he⟩
 have iQ0 : CmpI m ld l k Q Q := ⟨u3.inv, u3.nil, fun e he _ => he⟩
 have iP1 : CmpI m ld l k P ⟨sP, P.c, P.H, P.err⟩ := ⟨cP3, t3.nil, fun e he hn => by simp only;rw [cP2];exact List.mem_filter.2 ⟨he, decide_eq_true hn⟩⟩
 have iQ1 : CmpI m ld l k Q ⟨sQ, Q.c, Q.H, Q.err⟩ := ⟨cQ3, u3.nil, fun e he hn => by simp only;rw [cQ2];exact List.mem_filter.2 ⟨he, decide_eq_true hn⟩⟩
 have fP := t3.inv.fine hs
 have fQ := u3.inv.fine hs
 have lP := extO_len t3.inv.buf.ext
 have lQ := extO_len u3.inv.buf.ext
 have evv : ∀ (D : List EvS), (∀ e ∈ D, e ∈ l) → ∀ e ∈ D, EvV m (n0 l : Nat) e := fun D hD e he => hs.e.2.2.2.2 e (hD e he)
 have bP : BasOK m P.s.now.clock.length P.s.base := by rw [hPb, fP.ok.n];exact base_ok hm hnr hs.ln
 have bQ : BasOK m Q.s.now.clock.length Q.s.base := by rw [hQb, fQ.ok.n];exact base_ok hm hnr hs.ln
 have gP := pstore_a p1 s1 q1 m1 m v1' w1 P
 have gQ := pstore_a p2 s2 q2 m2 m v2' w2 Q
 have kP := compact_a s1 m P.s.base v1' P.s.evs P.s.now k hm fP.ok.now bP (by omega) (by rw [fP.ok.n];exact evv _ t3.inv.buf.ext.sub)
 have kQ := compact_a s2 m Q.s.base v2' Q.s.evs Q.s.now k hm fQ.ok.now bQ (by omega) (by rw [fQ.ok.n];exact evv _ u3.inv.buf.ext.sub)
 have eP : compactF m ⟨P.s.base, P.s.evs, P.s.now⟩ k = (0, sP) := cP1
 have eQ : compactF m ⟨Q.s.base, Q.s.evs, Q.s.now⟩ k = (0, sQ) := cQ1
 rw [eP] at kP
 rw [eQ] at kQ
 (repeat' (first|(show CA _ _ (Code.region 20 _ _) _ _;apply Stopped.out)|refine Sp.h ?_|refine Lk.r rfl ?_|refine Rf.mk rfl ?_|(apply Cl.p (hcz);focus repeat' constructor)));any_goals apply Stopped.mk
 refine CA.cut (fun x : (PrS × Value) × PrS × Value => ⟨[(1, ints ld), (2, evs l), (6, pm b6), (13, evs (cutL l ac)), (14, ints ac), (15, evs (cutL l bc)), (16, ints bc), (20, pm p1), (21, pm p2), (145, bl false)], mR b6 m :: (prR p1 s1 q1 m1 m x.1.2 w1 x.1.1 ++ prR p2 s2 q2 m2 m x.2.2 w2 x.2.1)⟩) (fun x => CmpI m ld l k P x.1.1 ∧ CmpI m ld l k Q x.2.1) ?_ ?_
 ·repeat' (first|refine Sp.h ?_|refine Lk.r rfl ?_|refine Rf.mk rfl ?_|refine xA ?_|refine xB ?_|(refine Bd.mk ?_ ?_ <;> intro _)|refine All.mk fun _=>?_|(((apply Cl.use (gP);(focus repeat' constructor);(focus repeat' constructor);focus rfl));(rintro _ _ ⟨rfl, rfl⟩))|(((apply Cl.use (gQ);(focus repeat' constructor);(focus repeat' constructor);focus rfl));(rintro _ _ ⟨rfl, rfl⟩))|(((apply Cl.use (kP);(focus repeat' constructor);(focus repeat' constructor);focus rfl));(rintro _ _ ⟨rfl, v3, rfl⟩))|(((apply Cl.use (kQ);(focus repeat' constructor);(focus repeat' constructor);focus rfl));(rintro _ _ ⟨rfl, v4, rfl⟩)))
  ·exact PA.lp ((⟨sP, P.c, P.H, P.err⟩, _), ⟨sQ, Q.c, Q.H, Q.err⟩, _) xE ⟨iP1, iQ1⟩
  ·exact PA.lp ((⟨sP, P.c, P.H, P.err⟩, _), Q, _) xE ⟨iP1, iQ0⟩
  ·exact PA.lp ((P, _), ⟨sQ, Q.c, Q.H, Q.err⟩, _) xE ⟨iP0, iQ1⟩
  ·exact PA.lp ((P, _), Q, _) xE ⟨iP0, iQ0⟩
 rintro ⟨⟨P1, v3⟩, Q1, v4⟩ ⟨iP, iQ⟩
 simp only at iP iQ
 simp only

 have cvP : Covers P.s.evs Q.s.evs P1 := fun e he hn => iP.cov e he fun hh => hn ((u3.mem e).2 (mem_cut.2 ⟨t3.inv.buf.ext.sub e he, ((has_meet hpa.val hpb.val hlab _ _).1 (by rw [← hk];exact hh)).2⟩))
 have cvQ : Covers Q.s.evs P.s.evs Q1 := fun e he hn => iQ.cov e he fun hh => hn ((t3.mem e).2 (mem_cut.2 ⟨u3.inv.buf.ext.sub e he, ((has_meet hpa.val hpb.val hlab _ _).1 (by rw [← hk];exact hh)).1⟩))
 obtain ⟨R, S, P', Q', Xa, Xb, rr, sm1, sm2, mv, ga, gb, pA, pB⟩ := cmp_rec hs hpa hpb (t3.perm hs) (u3.perm hs) iP.inv iQ.inv iP.nil iQ.nil cvP cvQ 5 (by omega)
 obtain ⟨u, hu⟩ : ∃ u, u = joinC ac bc := ⟨_, rfl⟩
 have hpu : Part l u := by rw [hu];exact Part.join hc hpa hpb
 have hju := join_z2 hpa.val hpb.val hlab
 rw [← hu] at hju mv pA pB
 have hrc := recon_a p1 s1 q1 m1 v3 w1 p2 s2 q2 m2 v4 w2 m (n0 l) 200 P1 Q1 P' Q' 5 R S hm rr (by omega) hnr.2 (by omega) (by omega) (by omega)
 have hct := cut_z l u (by omega)
 obtain ⟨U, hU2⟩ : ∃ U, U = cutL l u := ⟨_, rfl⟩
 have hUl : ∀ e ∈ U, e ∈ l := fun e he => by rw [hU2] at he;exact (mem_cut.1 he).1
 have hUn : U.length ≤ 40 := by rw [hU2];have := cut_len l u;omega
 have hUv : ∀ e ∈ U, EvV m (e.past.length : Nat) e := fun e he => by
  have h9 := hs.e.2.2.2.2 e (hUl e he)
  have h8 := h9.2.1
  rw [← h8] at h9
  exact h9
 have hact : ActOK m U := fun e he hk => by
  have h1 := hs.e.2.2.2.2 e (hUl e he)
  exact ⟨act_rng h1.1 hk, h1.2.2 hk⟩
 have hlay := hm.lay
 have hkd : ∀ t ∈ m.tables, ¬ isStrict t.kind → Kd t := fun t ht hns => by
  have := (hlay.2.2.2 t ht).2
  unfold isStrict at hns
  unfold Kd
  omega
 have hes := estate_p m ld U hm hs.ln hUv
 have hvl := eValues_p m U hlay hkd hUv hact (by omega)
 have hUc : ClosedE U := by rw [hU2];exact part_closed' hc hpu
 rw [← hU2] at hct mv pA pB
 have ea := end_show hs ga pA hUc
 have eb := end_show hs gb pB hUc
 obtain ⟨ST, hST⟩ : ∃ ST, ST = U.foldl (addE m) ld := ⟨_, rfl⟩
 obtain ⟨VL, hVL⟩ : ∃ VL, VL = evlL m U (mrgF m) := ⟨_, rfl⟩
 rw [← hST] at hes ea eb
 rw [← hVL] at hvl ea eb
 change CallP _ _ _ (.tup [clks VL, it 0]) at hvl
 have fa := ga.fine hs
 have fb := gb.fine hs
 have hstr := hm.str
 have l3 := fa.ok.now.st
 have l4 := fb.ok.now.st
 have e2 := equal_p ST ST
 have e3 := listsQ_p VL VL
 rw [decide_eq_true rfl] at e2 e3
 repeat' (first|refine Sp.h ?_|refine Lk.r rfl ?_|refine Rf.mk rfl ?_|fail)
 refine xW (hrc) ?_
 rintro _ _ ⟨rfl, va, vb, rfl⟩
 have a1 := pstore_a p1 s1 q1 m1 m va w1 P'
 have a3 := sstate_p s1 m P'.s.base va P'.s.now (by omega)
 have a4 := svalues_p s1 m P'.s.base va P'.s.now hm
 have b1 := pstore_a p2 s2 q2 m2 m vb w2 Q'
 have b3 := sstate_p s2 m Q'.s.base vb Q'.s.now (by omega)
 have b4 := svalues_p s2 m Q'.s.base vb Q'.s.now hm
 rw [ea.1] at a3
 rw [eb.1] at b3
 rw [ea.2] at a4
 rw [eb.2] at b4
 repeat' (first|refine Sp.h ?_|refine Lk.r rfl ?_|refine Rf.mk rfl ?_|refine All.mk fun _=>?_|(apply Fk.r;focus repeat' first|infer_instance|constructor)|refine Rf.mk ⟨rfl, rfl, rfl⟩ ?_|fail)
 (apply Cl.fz;(focus repeat' (first|exact FZ.nil|(apply FZ.fz;(focus repeat constructor);(focus first|omega|decide|exact Nat.le_of_ble_eq_true rfl|(simp <;> omega)))|apply FZ.agg|apply FZ.same)))
 (apply Cl.p (hju);(focus repeat' (first|exact Lend.nil|(apply Lend.mp;(focus rfl))|fail)))
 repeat' (first|refine Sp.h ?_|refine Lk.r rfl ?_|refine Rf.mk rfl ?_|refine xA ?_|refine xP ?_|refine Im.mk fun _=>?_|refine xT ?_|refine Ch.l ⟨rfl, rfl⟩ ?_|refine xO ?_|(apply Cl.p (hct);focus (repeat' constructor);done)|(apply Cl.p (hes);focus (repeat' constructor);done)|(apply Cl.p (hvl);focus (repeat' constructor);done))
 repeat' (first|refine Sp.h ?_|refine Lk.r rfl ?_|refine Rf.mk rfl ?_|refine xA ?_|refine xN ?_|(((apply Cl.use (a1);(focus repeat' constructor);(focus repeat' constructor);focus rfl));(rintro _ _ ⟨rfl, rfl⟩))|(((apply Cl.use (a3);(focus repeat' constructor);(focus repeat' constructor);focus rfl));(rintro _ _ ⟨rfl, rfl⟩))|(((apply Cl.use (a4);(focus repeat' constructor);(focus repeat' constructor);focus rfl));(rintro _ _ ⟨rfl, rfl⟩))|(((apply Cl.use (b1);(focus repeat' constructor);(focus repeat' constructor);focus rfl));(rintro _ _ ⟨rfl, rfl⟩))|(((apply Cl.use (b3);(focus repeat' constructor);(focus repeat' constructor);focus rfl));(rintro _ _ ⟨rfl, rfl⟩))|(((apply Cl.use (b4);(focus repeat' constructor);(focus repeat' constructor);focus rfl));(rintro _ _ ⟨rfl, rfl⟩))|(apply Cl.p (e2);focus (repeat' constructor);done)|(apply Cl.p (e3);focus (repeat' constructor);done))
 all_goals exact Fin.p rfl rfl
end Go.Proofs.YtajenkpjcbaadaaGreat
