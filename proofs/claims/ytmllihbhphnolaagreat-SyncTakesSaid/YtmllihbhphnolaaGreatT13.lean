/- Part 13 of the ground of this proof: what its texts say of the model, the program and the plain data; conditions: those that are named. -/
import Derived.Test.YtmllihbhphnolaaGreatT12
namespace Go.Proofs.YtmllihbhphnolaaGreat
open Go Go.CF
set_option maxRecDepth 20000
noncomputable abbrev rpC (b : NowS) (L : List EvS) (c : List Int) (H : List (List Int × EvS)) (er : Int) : List AV := [ints b.clock, it b.time, ints b.state, mgs b.merged, nl0, nl0, ints b.places, evs L, ints c, evs (hlL H), it er]
noncomputable abbrev rpP (b : NowS) (p : PrS) : List AV := rpC b p.s.evs p.c p.H p.err
set_option maxHeartbeats 8000000 in
theorem take38_p (m : ModS) (n B : Nat) (b : NowS) (p : PrS) (l : List EvS) (hm : MOK m) (hr : RefB m n b) (h : TkI m n b p) (ho : PrOK m n B p) (hn : n ≤ 5) (hB : b.places.length + B + l.length ≤ 5000) :
  CallP Tryz.prog 40 [mdl m, .agg (rpP b p), evs l] (.tup [.agg (rpP b (takeF m l p).2.1), evs (takeF m l p).2.2, it (takeF m l p).1]) := by
 obtain ⟨res, hres⟩ : ∃ res, res = takeF m l p := ⟨_, rfl⟩
 rw [← hres]
 refine CallA.fxr (K := fun r own => ∃ v, r = .tup [.agg (rpP b res.2.1), .ow v, it res.1] ∧ res.2.2.length ≤ 100000 ∧ own = [arrR v 37 13 res.2.2 evC]) ?_ (by
  rintro _ _ ⟨v, rfl, h9, rfl⟩
  exact ⟨_, _, .tup (.k (.s1 .here (by omega) (.k .nil))) .nil, rfl, rfl⟩)
 refine CallA.of pg ord40 Tryz.func40 rfl Tryz.ntmps40 Tryz.results40 rfl fun h0 G0 O0 => ?_
 (repeat' (first|(show CA _ _ (Code.region 2 _ _) _ _;apply Stopped.out)|refine Sp.h ?_|refine Lk.r rfl ?_|refine Rf.mk rfl ?_|(refine All.mk ?_;intro _)|(apply Fk.r;focus repeat' first|infer_instance|constructor)|refine xN ?_|refine Rf.mk ⟨rfl, rfl, rfl⟩ ?_|fail));any_goals apply Stopped.mk
 rename_i b3 b4 b6 v0
 apply CA.retype (m := ([] : List EvS)) (g := evC)
 focus (repeat constructor)
 focus rfl
 by_cases he : p.err = 0
 rotate_left
 ·have hr9 : res = (9, p, []) := by rw [hres];exact if_pos he
  rw [hr9]
  repeat' (first|refine Sp.h ?_|refine Lk.r rfl ?_|refine Rf.mk rfl ?_|refine xB ?_|refine xT ?_|refine Ch.l ⟨rfl, rfl⟩ ?_|(apply SetAsk.r;focus repeat' constructor)|refine xN ?_|fail)
  exact ⟨_, [arrR v0 37 13 ([] : List EvS) evC], .tup (.same (.same (.same (.z)))), v0, rfl, by simp, rfl⟩
 have hres : res = takF m l p [] := by rw [hres, takeF, if_neg (fun h9 => h9 he)]
 have hlen : res.2.2.length ≤ 100000 := by
  have h1 := takF_len (m := m) l p [] ho.hld ho.c
  rw [← hres] at h1
  have h2 := ho.sz
  simp only [List.length_nil] at h1
  omega
 obtain ⟨⟨b0, evl0, w0⟩, c0, H0, er0⟩ := p
 simp only at he
 subst he
 repeat' (first|refine Sp.h ?_|refine Lk.r rfl ?_|refine Rf.mk rfl ?_|refine xA ?_|refine xT ?_|fail)
 refine CA.loop (fun x : Nat × PrS × List EvS × Value => ⟨[(2, evs l), (3, pm b3), (4, pm b4), (6, pm b6), (9, .ow x.2.2.2), (10, it x.1)], [arrR x.2.2.2 37 13 x.2.2.1 evC, mR b3 m, blkR b4 84 (rpP b x.2.1), blkR b6 84 [nl0, it 0, nl0, nl0, nl0, nl0, nl0, nl0, nl0, nl0, it 0]]⟩)
  (fun x => x.1 ≤ l.length ∧ PrOK m n (B + x.1) x.2.1 ∧ TkI m n b x.2.1 ∧ x.2.1.err = 0 ∧ x.2.2.1.length ≤ 1000 * x.1 ∧ res = takF m (l.drop x.1) x.2.1 x.2.2.1) (fun x => l.length - x.1) (0, ⟨⟨b0, evl0, w0⟩, c0, H0, 0⟩, [], v0) xE ⟨Nat.zero_le _, ho, h, rfl, by simp, hres⟩ ?_
 rintro ⟨i, ⟨⟨b1, evl, w⟩, c, H, er⟩, out, v⟩ ⟨hi, hp, ht, rfl, hol, hrs⟩
 simp only at hi hp ht hol hrs
 simp only
 by_cases hin : i < l.length
 rotate_left
 ·have hr2 : res = (0, ⟨⟨b1, evl, w⟩, c, H, 0⟩, out) := by
   rw [hrs, List.drop_eq_nil_of_le (by omega)];rfl
  rw [hr2] at hlen ⊢
  repeat' (first|refine Sp.h ?_|refine Lk.r rfl ?_|refine Rf.mk rfl ?_|refine xB ?_|(refine Im.mk ?_;intro _)|refine xT ?_|refine Ch.l ⟨rfl, rfl⟩ ?_|(apply SetAsk.r;focus repeat' constructor)|refine xN ?_|fail)
  exact ⟨_, [arrR v 37 13 out evC], .tup (.same (.same (.same (.z)))), v, rfl, hlen, rfl⟩
 obtain ⟨e, hx⟩ := get_of hin
 have hcn := hp.c
 have hwn := hp.n
 simp only at hcn hwn
 have hva := evalid32_p m (c.length : Nat) e
 have hadd := add33_p n c H e hn ht.buf
 by_cases hv : EvV m (w.clock.length : Nat) e
 rotate_left
 ·have hr2 : res = (1, ⟨⟨b1, evl, w⟩, c, H, 0⟩, out) := by
   rw [hrs, List.drop_eq_getElem_cons hin, (List.getElem?_eq_some_iff.1 hx).2]
   simp only [takF, if_pos hv]
  have hv' : ¬ EvV m (c.length : Nat) e := by rw [hcn, ← hwn];exact hv
  rw [decide_eq_false hv'] at hva
  rw [hr2] at hlen ⊢
  repeat' (first|refine Sp.h ?_|refine Lk.r rfl ?_|refine Rf.mk rfl ?_|refine xA ?_|refine xB ?_|refine OpK.r rfl ?_|(refine Im.mk ?_;intro _)|refine xT ?_|refine xI ?_|refine Ch.l ⟨rfl, rfl⟩ ?_|(apply SetAsk.r;focus repeat' constructor)|refine xN ?_|refine xD ?_|(apply Cl.p (hva);(focus repeat' (first|exact Lend.nil|apply Lend.keep|fail))))
  all_goals exact ⟨_, [arrR v 37 13 out evC], .tup (.same (.same (.same (.z)))), v, rfl, hlen, rfl⟩
 have hv' : EvV m (c.length : Nat) e := by rw [hcn, ← hwn];exact hv
 rw [decide_eq_true hv'] at hva
 obtain ⟨A, hA⟩ : ∃ A, A = addB c H e := ⟨_, rfl⟩
 obtain ⟨ha, hs⟩ := hp.add e
 have hbv := addB_val ht.buf e
 simp only [← hA] at hadd ha hs hbv
 have hAl := ha.sum
 have hHl := hp.hld.len
 simp only at hHl
 obtain ⟨D, hD⟩ : ∃ D, D = dlvF m A.2.1 ⟨b1, evl, w⟩ out := ⟨_, rfl⟩
 have hr2 : res = if D.1 = 0 then takF m (l.drop (i + 1)) ⟨D.2.1, A.2.2.1, A.2.2.2, 0⟩ D.2.2 else (D.1, ⟨D.2.1, A.2.2.1, A.2.2.2, D.1⟩, D.2.2) := by
  rw [hrs, List.drop_eq_getElem_cons hin, (List.getElem?_eq_some_iff.1 hx).2]
  simp only [takF, ← hA, ← hD]
  exact if_neg (fun h9 => h9 hv)
 have hb1 : b1 = b := ht.base
 subst hb1
 (repeat' (first|(show CA _ _ (Code.region 9 _ _) _ _;apply Stopped.out)|refine Sp.h ?_|refine Lk.r rfl ?_|refine Rf.mk rfl ?_|refine xA ?_|refine OpK.r rfl ?_|(refine Im.mk ?_;intro _)|refine xT ?_|refine xI ?_|refine Ch.l ⟨rfl, rfl⟩ ?_|refine xD ?_|(apply Cl.p (hva);(focus repeat' (first|exact Lend.nil|apply Lend.keep|fail)))));any_goals apply Stopped.mk
 refine CA.cut (fun b11 : Nat => ⟨[(2, evs l), (3, pm b3), (4, pm b4), (6, pm b6), (9, .ow v), (10, it i), (11, pm b11), (12, evs A.2.1)], [arrR v 37 13 out evC, mR b3 m, blkR b4 84 (rpC b1 evl c H 0), blkR b6 84 [nl0, it 0, nl0, nl0, nl0, nl0, nl0, nl0, nl0, nl0, it 0], blkR b11 65 (rbC A.2.2.1 A.2.2.2)]⟩) (fun _ => True) ?_ ?_
 ·repeat' (first|refine Sp.h ?_|refine Lk.r rfl ?_|refine Rf.mk rfl ?_|refine OpK.r rfl ?_|(refine All.mk ?_;intro _)|refine xT ?_|refine xI ?_|refine Ch.l ⟨rfl, rfl⟩ ?_|refine Ch.r ?_|(apply SetAsk.r;focus repeat' constructor)|refine xN ?_|refine xD ?_|exact trivial|apply RA'.both|(apply Cl.p (hadd);(focus repeat' (first|exact Lend.nil|apply Lend.keep|fail))))
  all_goals exact PA.lp _ xE trivial
 intro b11 _
 simp only
 repeat' (first|refine Sp.h ?_|refine Lk.r rfl ?_|refine Rf.mk rfl ?_|refine xT ?_|refine Ch.l ⟨rfl, rfl⟩ ?_|(apply SetAsk.r;focus repeat' constructor)|fail)
 refine CA.loop (fun x : Nat × StoS × List EvS × Value => ⟨[(2, evs l), (3, pm b3), (4, pm b4), (6, pm b6), (9, .ow x.2.2.2), (10, it i), (12, evs A.2.1), (14, it x.1)], [arrR x.2.2.2 37 13 x.2.2.1 evC, mR b3 m, blkR b4 84 (rpC b1 x.2.1.evs A.2.2.1 A.2.2.2 0), blkR b6 84 [nl0, it 0, nl0, nl0, nl0, nl0, nl0, nl0, nl0, nl0, it 0]]⟩)
  (fun x => x.1 ≤ A.2.1.length ∧ StK m n (B + i + 1) x.2.1 (A.2.1.length - x.1 + A.2.2.2.length) ∧ StI m n b1 x.2.1 ∧ x.2.2.1.length ≤ 1000 * i + x.1 ∧ D = dlvF m (A.2.1.drop x.1) x.2.1 x.2.2.1) (fun x => A.2.1.length - x.1) (0, ⟨b1, evl, w⟩, out, v) xE ⟨Nat.zero_le _, hs, ht.sto, hol, hD⟩ ?_
 rintro ⟨j, ⟨b2, evl', w'⟩, out', v'⟩ ⟨hj, hS, hI, hol', hD2⟩
 simp only at hj hS hI hol' hD2
 simp only
 have hb2 : b2 = b1 := hI.base
 subst hb2
 by_cases hjn : j < A.2.1.length
 rotate_left
 ·have hD3 : D = (0, ⟨b2, evl', w'⟩, out') := by
   rw [hD2, List.drop_eq_nil_of_le (by omega)];rfl
  rw [hD3, if_pos rfl] at hr2
  repeat' (first|refine Sp.h ?_|refine Lk.r rfl ?_|refine Rf.mk rfl ?_|refine xB ?_|(refine Im.mk ?_;intro _)|refine xO ?_|fail)
  all_goals exact PA.lp (i + 1, ⟨⟨b2, evl', w'⟩, A.2.2.1, A.2.2.2, 0⟩, out', v') xE ⟨⟨hin, PrOK.of (hS.mono (by omega)) ha.clk ha.hld, ⟨rfl, hI.now, hI.opn, hbv⟩, rfl, by simp only;omega, hr2⟩, by simp only;omega⟩
 obtain ⟨y, hy⟩ := get_of hjn
 have hnw := hI.now
 simp only at hnw
 have hSz := hS.sz
 simp only at hSz
 have hdl := deliver35_p m n b2 evl' w' y hm hr hI.opn.ev (by omega) hnw (by rw [hnw];exact hI.opn.ins)
 have hdc : ∀ k : Nat, it (k : Nat) = it (k : Nat) := fun _ => rfl
 (repeat' (first|(show CA _ _ (Code.region 14 _ _) _ _;apply Stopped.out)|refine Sp.h ?_|refine Lk.r rfl ?_|refine Rf.mk rfl ?_|refine xA ?_|(refine Im.mk ?_;intro _)|fail));any_goals apply Stopped.mk
 refine CA.cut (fun b15 : Nat => ⟨[(2, evs l), (3, pm b3), (4, pm b4), (6, pm b6), (9, .ow v'), (10, it i), (12, evs A.2.1), (14, it j), (15, pm b15), (16, it (deliverF m evl' w' y).1)], [arrR v' 37 13 out' evC, mR b3 m, blkR b4 84 (rpC b2 evl' A.2.2.1 A.2.2.2 0), blkR b6 84 [nl0, it 0, nl0, nl0, nl0, nl0, nl0, nl0, nl0, nl0, it 0], blkR b15 80 (rstC b2 (evsD m evl' w' y))]⟩) (fun _ => True) ?_ ?_
 ·repeat' (first|refine Sp.h ?_|refine Lk.r rfl ?_|refine Rf.mk rfl ?_|refine OpK.r rfl ?_|(refine All.mk ?_;intro _)|refine xT ?_|refine xI ?_|refine Ch.l ⟨rfl, rfl⟩ ?_|refine Ch.r ?_|(apply SetAsk.r;focus repeat' constructor)|refine xN ?_|refine xD ?_|exact trivial|apply RA'.both|(apply Cl.p (hdl);(focus repeat' (first|exact Lend.nil|apply Lend.keep|fail))))
  all_goals exact PA.lp _ xE trivial
 intro b15 _
 simp only
 by_cases hk : (deliverF m evl' w' y).1 = 0
 ·have hD3 : D = dlvF m (A.2.1.drop (j + 1)) ⟨b2, evl' ++ [y], (deliverF m evl' w' y).2⟩ (out' ++ [y]) := by
   rw [hD2, List.drop_eq_getElem_cons hjn, (List.getElem?_eq_some_iff.1 hy).2]
   simp only [dlvF, if_pos hk]
  rw [evsD, if_pos hk]
  repeat' (first|refine Sp.h ?_|refine Lk.r rfl ?_|refine Rf.mk rfl ?_|refine xA ?_|refine xP ?_|(refine All.mk ?_;intro _)|refine xU ?_|refine xT ?_|refine xI ?_|refine Ce.r ?_|refine Ch.l ⟨rfl, rfl⟩ ?_|(apply SetAsk.r;focus repeat' constructor)|(apply Fk.r;focus repeat' first|infer_instance|constructor)|refine Rf.mk ⟨rfl, rfl⟩ ?_|refine Rf.mk ⟨rfl, rfl, rfl⟩ ?_|(apply Mp.lit;(focus repeat (first|exact MpL.nil|(apply MpL.cons;(focus rfl))|(apply MpL.inv;(focus repeat constructor);(focus infer_instance)))))|refine xO ?_|fail)
  all_goals exact PA.lp (j + 1, ⟨b2, evl' ++ [y], (deliverF m evl' w' y).2⟩, out' ++ [y], _) xE ⟨⟨hjn, StK.next (hS.mono (by omega)) (by omega) hk, hI.step hr hk, by simp only [List.length_append, List.length_cons, List.length_nil];omega, hD3⟩, by simp only;omega⟩
 ·have hD3 : D = ((deliverF m evl' w' y).1, ⟨b2, evl', w'⟩, out') := by
   rw [hD2, List.drop_eq_getElem_cons hjn, (List.getElem?_eq_some_iff.1 hy).2]
   simp only [dlvF, if_neg hk]
  rw [hD3, if_neg hk] at hr2
  rw [hr2] at hlen ⊢
  rw [evsD, if_neg hk]
  repeat' (first|refine Sp.h ?_|refine Lk.r rfl ?_|refine Rf.mk rfl ?_|refine xB ?_|refine xT ?_|refine Ch.l ⟨rfl, rfl⟩ ?_|refine xV ?_|(apply SetAsk.r;focus repeat' constructor)|refine xN ?_|fail)
  all_goals exact ⟨_, [arrR v' 37 13 out' evC], .tup (.same (.same (.same (.z)))), v', rfl, hlen, rfl⟩
end Go.Proofs.YtmllihbhphnolaaGreat
namespace Go.Proofs.YtmllihbhphnolaaGreat
open Go Go.CF
set_option maxRecDepth 20000
def shwO : Nat → Ord × (Nat → Cls) := fun id => bif Nat.beq id 2 then (.one 0 (.one 1 (.one 2 (.one 3 (.one 5 (.alt 4 (.one 6 (.one 7 (.one 8 (.one 9 (.one 10 (.one 13 (.alt 11 (.alt 12 (.one 14 (.one 15 (.one 16 (.one 17 (.one 18 (.one 19 (.one 20 (.one 21 (.one 23 (.one 24 (.alt 22 (.one 25 (.one 26 (.one 27 (.one 28 .done)))) (.alt 25 (.one 22 (.one 26 (.one 27 (.one 28 .done)))) (.none))))))))))))) (.alt 14 (.one 12 (.one 15 (.one 16 (.one 17 (.one 18 (.one 19 (.one 20 (.one 21 (.one 23 (.one 24 (.alt 22 (.one 25 (.one 26 (.one 27 (.one 28 .done)))) (.alt 25 (.one 22 (.one 26 (.one 27 (.one 28 .done)))) (.none))))))))))))) (.none))) (.alt 12 (.alt 11 (.one 14 (.one 15 (.one 16 (.one 17 (.one 18 (.one 19 (.one 20 (.one 21 (.one 23 (.one 24 (.alt 22 (.one 25 (.one 26 (.one 27 (.one 28 .done)))) (.alt 25 (.one 22 (.one 26 (.one 27 (.one 28 .done)))) (.none))))))))))))) (.alt 14 (.one 11 (.one 15 (.one 16 (.one 17 (.one 18 (.one 19 (.one 20 (.one 21 (.one 23 (.one 24 (.alt 22 (.one 25 (.one 26 (.one 27 (.one 28 .done)))) (.alt 25 (.one 22 (.one 26 (.one 27 (.one 28 .done)))) (.none))))))))))))) (.none))) (.alt 14 (.alt 11 (.one 12 (.one 15 (.one 16 (.one 17 (.one 18 (.one 19 (.one 20 (.one 21 (.one 23 (.one 24 (.alt 22 (.one 25 (.one 26 (.one 27 (.one 28 .done)))) (.alt 25 (.one 22 (.one 26 (.one 27 (.one 28 .done)))) (.none))))))))))))) (.alt 12 (.one 11 (.one 15 (.one 16 (.one 17 (.one 18 (.one 19 (.one 20 (.one 21 (.one 23 (.one 24 (.alt 22 (.one 25 (.one 26 (.one 27 (.one 28 .done)))) (.alt 25 (.one 22 (.one 26 (.one 27 (.one 28 .done)))) (.none))))))))))))) (.none))) (.none)))))))))) (.alt 6 (.one 4 (.one 7 (.one 8 (.one 9 (.one 10 (.one 13 (.alt 11 (.alt 12 (.one 14 (.one 15 (.one 16 (.one 17 (.one 18 (.one 19 (.one 20 (.one 21 (.one 23 (.one 24 (.alt 22 (.one 25 (.one 26 (.one 27 (.one 28 .done)))) (.alt 25 (.one 22 (.one 26 (.one 27 (.one 28 .done)))) (.none))))))))))))) (.alt 14 (.one 12 (.one 15 (.one 16 (.one 17 (.one 18 (.one 19 (.one 20 (.one 21 (.one 23 (.one 24 (.alt 22 (.one 25 (.one 26 (.one 27 (.one 28 .done)))) (.alt 25 (.one 22 (.one 26 (.one 27 (.one 28 .done)))) (.none))))))))))))) (.none))) (.alt 12 (.alt 11 (.one 14 (.one 15 (.one 16 (.one 17 (.one 18 (.one 19 (.one 20 (.one 21 (.one 23 (.one 24 (.alt 22 (.one 25 (.one 26 (.one 27 (.one 28 .done)))) (.alt 25 (.one 22 (.one 26 (.one 27 (.one 28 .done)))) (.none))))))))))))) (.alt 14 (.one 11 (.one 15 (.one 16 (.one 17 (.one 18 (.one 19 (.one 20 (.one 21 (.one 23 (.one 24 (.alt 22 (.one 25 (.one 26 (.one 27 (.one 28 .done)))) (.alt 25 (.one 22 (.one 26 (.one 27 (.one 28 .done)))) (.none))))))))))))) (.none))) (.alt 14 (.alt 11 (.one 12 (.one 15 (.one 16 (.one 17 (.one 18 (.one 19 (.one 20 (.one 21 (.one 23 (.one 24 (.alt 22 (.one 25 (.one 26 (.one 27 (.one 28 .done)))) (.alt 25 (.one 22 (.one 26 (.one 27 (.one 28 .done)))) (.none))))))))))))) (.alt 12 (.one 11 (.one 15 (.one 16 (.one 17 (.one 18 (.one 19 (.one 20 (.one 21 (.one 23 (.one 24 (.alt 22 (.one 25 (.one 26 (.one 27 (.one 28 .done)))) (.alt 25 (.one 22 (.one 26 (.one 27 (.one 28 .done)))) (.none))))))))))))) (.none))) (.none)))))))))) (.none))))))), clOf [.pure, .pure, .pure, .pure, .loud, .pure, .ext, .pure, .pure, .pure, .pure, .loud, .ext, .pure, .ext, .loud, .pure, .loud, .pure, .pure, .pure, .pure, .loud, .pure, .pure, .ext, .loud, .pure, .pure]) else bif Nat.beq id 4 then (.one 0 (.one 1 (.one 2 (.one 3 (.one 4 (.one 6 (.one 7 (.alt 5 (.one 8 (.one 9 (.one 10 (.one 11 .done)))) (.alt 8 (.one 5 (.one 9 (.one 10 (.one 11 .done)))) (.none))))))))), clOf [.pure, .read, .pure, .pure, .pure, .loud, .pure, .pure, .ext, .loud, .pure, .pure]) else (.done, clOf [])
set_option maxHeartbeats 16000000 in
theorem shows38_a (pb sp bb mb : Nat) (m : ModS) (v vc : Value) (n B : Nat) (b : NowS) (p : PrS) (hm : MOK m) (hr : RefB m n b) (h : TkI m n b p) (ho : PrOK m n B p) (hn : n ≤ 5) (hB : b.places.length + B ≤ 5000) :
  CallA Tryz.prog 42 [mdl m, pm pb, .agg (rpP b p)] (prR pb sp bb mb m v vc p) fun r own => r = bl true ∧ own = prR pb sp bb mb m v vc p := by
 obtain ⟨⟨b1, evl, w⟩, c, H, er⟩ := p
 have hb1 : b1 = b := h.base
 subst hb1
 have hnw := h.now
 have hsz := ho.sz
 have hwn := ho.n
 simp only at hnw hsz hwn
 have hop := h.opn
 simp only at hop
 have hal := all35_p m n b1 evl hm hr hop.ev (by omega)
 rw [← hnw] at hal
 have g0 := pstore_a pb sp bb mb m v vc ⟨⟨b1, evl, w⟩, c, H, er⟩
 have g1 := perr_a pb sp bb mb m v vc ⟨⟨b1, evl, w⟩, c, H, er⟩
 have g2 := sclock_p sp m b1 v w (by omega)
 have g3 := sevents_p sp m b1 v w evl (by omega) (fun e he => by have := (hop.ev e he).2.1;omega)
 have g4 := pheld_a pb sp bb mb m v vc ⟨⟨b1, evl, w⟩, c, H, er⟩ ho.hld
 have q1 := equal_p w.clock w.clock
 have q2 := same32_p evl evl
 have q3 := same32_p (hlL H) (hlL H)
 rw [decide_eq_true rfl] at q1 q2 q3
 refine CallA.of pg shwO Tryz.func42 rfl Tryz.ntmps42 Tryz.results42 rfl fun h0 G0 O0 => ?_
 repeat' (first|refine Sp.h ?_|refine Lk.r rfl ?_|refine Rf.mk rfl ?_|(refine All.mk ?_;intro _)|fail)
 rename_i b3 b5
 refine xW (g0) ?_
 rintro _ _ ⟨rfl, rfl⟩
 (repeat' (first|(show CA _ _ (Code.region 2 _ _) _ _;apply Stopped.out)|refine Sp.h ?_|refine Lk.r rfl ?_|fail));any_goals apply Stopped.mk
 refine CA.cut (fun _ : Unit => ⟨[(1, pm pb), (3, pm b3), (5, pm b5), (38, bl false)], [mR b3 m, blkR b5 84 (rpC b1 evl c H er)] ++ prR pb sp bb mb m v vc ⟨⟨b1, evl, w⟩, c, H, er⟩⟩) (fun _ => True) ?_ ?_
 ·repeat' (first|refine Sp.h ?_|refine Lk.r rfl ?_|refine Rf.mk rfl ?_|refine xA ?_|refine xB ?_|refine OpK.r rfl ?_|refine xT ?_|refine Ch.l ⟨rfl, rfl⟩ ?_|refine Ch.r ?_|refine xD ?_|exact trivial|apply RA'.both|(((apply Cl.use (g1);(focus repeat' (first|exact Lend.nil|apply Lend.keep|fail));(focus (repeat (first|exact Takes.nil|(apply Takes.cons;(focus repeat constructor)))));(focus rfl)));(rintro _ _ ⟨rfl, rfl⟩))|(((apply Cl.use (g2);(focus repeat' (first|exact Lend.nil|apply Lend.keep|fail));(focus (repeat (first|exact Takes.nil|(apply Takes.cons;(focus repeat constructor)))));(focus rfl)));(rintro _ _ ⟨rfl, rfl⟩))|(((apply Cl.use (g3);(focus repeat' (first|exact Lend.nil|apply Lend.keep|fail));(focus (repeat (first|exact Takes.nil|(apply Takes.cons;(focus repeat constructor)))));(focus rfl)));(rintro _ _ ⟨rfl, rfl⟩))|(apply Cl.p (hal);(focus repeat' (first|exact Lend.nil|apply Lend.keep|fail)))|(apply Cl.p (q1);(focus repeat' (first|exact Lend.nil|apply Lend.keep|fail)))|(apply Cl.p (q2);(focus repeat' (first|exact Lend.nil|apply Lend.keep|fail))))
  all_goals exact PA.lp () xE trivial
 intro _ _
 simp only [List.cons_append, List.nil_append]
 by_cases he : er = 0
 ·repeat' (first|refine Sp.h ?_|refine Lk.r rfl ?_|refine Rf.mk rfl ?_|refine xA ?_|refine OpK.r rfl ?_|refine xT ?_|refine xN ?_|refine xD ?_|exact trivial|apply RA'.both|(((apply Cl.use (g4);(focus repeat' (first|exact Lend.nil|apply Lend.keep|fail));(focus (repeat (first|exact Takes.nil|(apply Takes.cons;(focus repeat constructor)))));(focus rfl)));(rintro _ _ ⟨rfl, rfl⟩))|(apply Cl.p (q3);(focus repeat' (first|exact Lend.nil|apply Lend.keep|fail))))
  all_goals exact ⟨_, prR pb sp bb mb m v vc ⟨⟨b1, evl, w⟩, c, H, er⟩, .one (.same (.z)), rfl, rfl⟩
 ·repeat' (first|refine Sp.h ?_|refine Lk.r rfl ?_|refine Rf.mk rfl ?_|refine xB ?_|refine OpK.r rfl ?_|refine xT ?_|refine xN ?_|refine xD ?_|exact trivial|apply RA'.both|(((apply Cl.use (g4);(focus repeat' (first|fail));(focus (repeat (first|exact Takes.nil|(apply Takes.cons;(focus repeat constructor)))));(focus rfl)));(rintro _ _ ⟨rfl, rfl⟩))|(apply Cl.p (q3);(focus repeat' (first|fail))))
  all_goals exact ⟨_, prR pb sp bb mb m v vc ⟨⟨b1, evl, w⟩, c, H, er⟩, .one (.same (.z)), rfl, rfl⟩
end Go.Proofs.YtmllihbhphnolaaGreat
namespace Go.Proofs.YtmllihbhphnolaaGreat
open Go Go.CF
set_option maxRecDepth 20000
theorem deliver_les {m : ModS} {evl D : List EvS} {w : NowS} {e : EvS} (hs : ∀ x ∈ evl, x ∈ D) (h : (deliverF m D w e).1 = 0) : deliverF m evl w e = deliverF m D w e := by
 have hl : LateE evl e → LateE D e := fun ⟨x, h1, h2⟩ => ⟨x, hs x h1, h2⟩
 unfold deliverF at h ⊢
 by_cases c1 : ¬ EvV m (w.clock.length : Nat) e
 ·rw [if_pos c1, if_pos c1]
 rw [if_neg c1] at h ⊢
 rw [if_neg c1]
 by_cases c2 : HasC w.clock e.rep e.num
 ·rw [if_pos c2, if_pos c2]
 rw [if_neg c2] at h ⊢
 rw [if_neg c2]
 by_cases c3 : ¬ Ins e.past w.clock
 ·rw [if_pos c3, if_pos c3]
 rw [if_neg c3] at h ⊢
 rw [if_neg c3]
 by_cases c4 : LateE D e
 ·rw [if_pos c4] at h;exact absurd (show (2 : Int) = 0 from h) (by decide)
 rw [if_neg c4, if_neg fun h9 => c4 (hl h9)]
structure InvP (m : ModS) (ld : List Int) (l D : List EvS) (p : PrS) : Prop where
 err : p.err = 0
 sto : StoA m l ld D p.s.now
 evs : p.s.evs.Sublist D
 buf : BufI l D p.c p.H
 nrd : NrdI l D p.H
theorem dlvF_inv {m : ModS} {ld : List Int} {l : List EvS} (hs : SuitS m ld l) : ∀ (X D : List EvS) (s : StoS) (out : List EvS), ExtO l (D ++ X) → StoA m l ld D s.now → s.evs.Sublist D →
  ∃ w', dlvF m X s out = (0, ⟨s.base, s.evs ++ X, w'⟩, out ++ X) ∧ StoA m l ld (D ++ X) w'
 | [], D, s, out, _, h, _ => ⟨s.now, by simp [dlvF], by rw [List.append_nil];exact h⟩
 | x :: X, D, s, out, hx, h, hsub => by
  have hlen := extO_len hx
  have hl60 := hs.e.2.1.1
  simp only [List.length_append, List.length_cons] at hlen
  have hgx : (D ++ x :: X)[D.length]? = some x := by simp
  obtain ⟨n1, n2⟩ := hx.nxt _ _ hgx
  have hc := hx.cau D.length
  rw [List.take_left] at n1 n2 hc
  obtain ⟨w', d1, d2⟩ := deliver_ok hs.e (by omega) hs.smd hs.ld h (by omega) hc (hx.sub x (by simp)) n1 n2
  have d3 := deliver_les (m := m) (evl := s.evs) (fun y hy => hsub.mem hy) (by rw [d1])
  rw [d1] at d3
  have hx' : ExtO l ((D ++ [x]) ++ X) := by rw [List.append_assoc];exact hx
  obtain ⟨w2, e1, e2⟩ := dlvF_inv hs X (D ++ [x]) ⟨s.base, s.evs ++ [x], w'⟩ (out ++ [x]) hx' d2 (hsub.append (List.Sublist.refl _))
  refine ⟨w2, ?_, by rw [List.append_assoc] at e2;exact e2⟩
  simp only [dlvF, d3, if_pos]
  rw [e1]
  simp
structure TakR (m : ModS) (ld : List Int) (l D : List EvS) (p : PrS) (l' X : List EvS) (p' : PrS) : Prop where
 inv : InvP m ld l (D ++ X) p'
 evs : p'.s.evs = p.s.evs ++ X
 base : p'.s.base = p.s.base
 got : ∀ e ∈ l', e ∈ D ++ X ∨ ∃ q ∈ p'.H, q.2 = e
 keep : ∀ q ∈ p.H, q.2 ∈ D ++ X ∨ q ∈ p'.H
 out : ∀ x ∈ X, x ∈ l' ∨ ∃ q ∈ p.H, q.2 = x
 mem : ∀ q ∈ p'.H, q ∈ p.H ∨ q.2 ∈ l'
theorem takF_inv {m : ModS} {ld : List Int} {l : List EvS} (hs : SuitS m ld l) : ∀ (l' D : List EvS) (p : PrS) (out : List EvS), (∀ e ∈ l', e ∈ l) → InvP m ld l D p →
  ∃ X p', takF m l' p out = (0, p', out ++ X) ∧ TakR m ld l D p l' X p'
 | [], D, p, out, _, h => ⟨[], p, by simp [takF], ⟨by rw [List.append_nil];exact h, by simp, rfl, fun e he => (nomatch he), fun q hq => .inr hq, fun x hx => (nomatch hx), fun q hq => .inl hq⟩⟩
 | e :: l', D, p, out, hl', h => by
  have hc := hs.e.2.2.1
  have hl60 := hs.e.2.1.1
  have he := hl' e List.mem_cons_self
  have hv : EvV m (p.s.now.clock.length : Nat) e := by rw [h.sto.clock, clkE_len];exact hs.e.2.2.2.2 e he
  have ha := addB_inv hc (by omega) h.buf h.nrd he
  obtain ⟨A, hA⟩ : ∃ A, A = addB p.c p.H e := ⟨_, rfl⟩
  rw [← hA] at ha
  obtain ⟨w', d1, d2⟩ := dlvF_inv hs A.2.1 D p.s out ha.b.ext h.sto h.evs
  obtain ⟨p1, hp1⟩ : ∃ p1 : PrS, p1 = ⟨⟨p.s.base, p.s.evs ++ A.2.1, w'⟩, A.2.2.1, A.2.2.2, p.err⟩ := ⟨_, rfl⟩
  have hi1 : InvP m ld l (D ++ A.2.1) p1 := by
   rw [hp1]
   exact ⟨h.err, d2, h.evs.append (List.Sublist.refl _), ha.b, ha.nrd⟩
  obtain ⟨X, p', t1, t2⟩ := takF_inv hs l' (D ++ A.2.1) p1 (out ++ A.2.1) (fun x hx => hl' x (List.mem_cons_of_mem _ hx)) hi1
  have eH : p1.H = A.2.2.2 := by rw [hp1]
  have eE : p1.s.evs = p.s.evs ++ A.2.1 := by rw [hp1]
  have eB : p1.s.base = p.s.base := by rw [hp1]
  refine ⟨A.2.1 ++ X, p', ?_, ⟨by rw [← List.append_assoc];exact t2.inv, by rw [t2.evs, eE, List.append_assoc], by rw [t2.base, eB], fun x hx => ?_, fun q hq => ?_, fun x hx => ?_, fun q hq => ?_⟩⟩
  ·simp only [takF, ← hA, d1, if_pos]
   rw [if_neg (fun h9 => h9 hv), ← hp1, t1, List.append_assoc]
  ·rw [← List.append_assoc]
   rcases List.mem_cons.1 hx with rfl|hx
   ·rcases ha.got with g|⟨q, hq, rfl⟩
    ·exact .inl (List.mem_append_left _ g)
    ·rcases t2.keep q (by rw [eH];exact hq) with g|g
     ·exact .inl g
     ·exact .inr ⟨q, g, rfl⟩
   ·exact t2.got x hx
  ·rw [← List.append_assoc]
   rcases ha.keep q hq with g|g
   ·exact .inl (List.mem_append_left _ g)
   ·exact t2.keep q (by rw [eH];exact g)
  ·rcases List.mem_append.1 hx with hx|hx
   ·rcases ha.out x hx with rfl|g
    ·exact .inl List.mem_cons_self
    ·exact .inr g
   ·rcases t2.out x hx with g|⟨q, hq, rfl⟩
    ·exact .inl (List.mem_cons_of_mem _ g)
    ·rw [eH] at hq
     rcases ha.mem q hq with g|g
     ·exact .inr ⟨q, g, rfl⟩
     ·rw [g];exact .inl List.mem_cons_self
  ·rcases t2.mem q hq with g|g
   ·rw [eH] at g
    rcases ha.mem q g with g|g
    ·exact .inl g
    ·rw [g];exact .inr List.mem_cons_self
   ·exact .inr (List.mem_cons_of_mem _ g)
theorem takeF_inv {m : ModS} {ld : List Int} {l l' D : List EvS} {p : PrS} (hs : SuitS m ld l) (hl' : ∀ e ∈ l', e ∈ l) (h : InvP m ld l D p) : ∃ X p', takeF m l' p = (0, p', X) ∧ TakR m ld l D p l' X p' := by
 obtain ⟨X, p', t1, t2⟩ := takF_inv hs l' D p [] hl' h
 refine ⟨X, p', ?_, t2⟩
 rw [takeF, if_neg (fun h9 => h9 h.err), t1, List.nil_append]
theorem newP_inv {m : ModS} {ld : List Int} {l : List EvS} (hs : SuitS m ld l) : InvP m ld l [] (newP m (n0 l) ld) :=
 ⟨rfl, sto0 m l ld, List.Sublist.refl _, ⟨ExtO.nil l, rfl, hldOK_nil _, fun q hq => (nomatch hq)⟩, fun q hq => (nomatch hq)⟩
theorem InvP.fine {m : ModS} {ld : List Int} {l D : List EvS} {p : PrS} (hs : SuitS m ld l) (h : InvP m ld l D p) : Fine m (n0 l) 200 p := by
 have hc := hs.e.2.2.1
 have hl60 := hs.e.2.1.1
 obtain ⟨e, he⟩ := get_of (l := l) (i := 0) hs.ne
 have hr := n0_rng hc (List.mem_of_getElem? he)
 have h1 := extO_len h.buf.ext
 have h2 := hld_len h.buf.hld fun q hq => (h.buf.hin q hq).1
 have h3 := h.evs.length_le
 have hp : p.s.now.places.length ≤ D.length := by
  rw [h.sto.places, places_srt]
  have := srtD_len (plL D);have := plL_len D
  omega
 refine ⟨⟨⟨by rw [h.sto.clock];exact clk_valC hc h.buf.ext.sub hr, by rw [h.sto.state, foldE_len];exact hs.ln, by rw [h.sto.places, places_srt];exact (srtD_si _).1, by omega⟩, by rw [h.sto.clock, clkE_len], by rw [h.buf.clk, clkE_len], h.buf.hld, by omega, by omega⟩, fun x hx => ?_⟩
 have := (hc.2.2.1 x (h.buf.ext.sub x (h.evs.mem hx))).1.1.2.2
 omega
theorem all_here {m : ModS} {ld : List Int} {l D : List EvS} {p : PrS} (hs : SuitS m ld l) (h : InvP m ld l D p) (S : List EvS) (hS : ExtO l S) (hk : ∀ e ∈ S, e ∈ D ∨ ∃ q ∈ p.H, q.2 = e) : ∀ e ∈ S, e ∈ D := by
 have key : ∀ i, i ≤ S.length → ∀ e ∈ S.take i, e ∈ D := by
  intro i
  induction i with
  | zero => intro _ e he;simp at he
  | succ i ih =>
   intro hi e he
   obtain ⟨x, hx⟩ := get_of (l := S) (i := i) (by omega)
   rw [List.take_add_one, hx] at he
   rcases List.mem_append.1 he with he|he
   ·exact ih (by omega) e he
   ·rw [Option.toList_some, List.mem_singleton] at he
    subst he
    rcases hk e (List.mem_of_getElem? hx) with g|⟨q, hq, rfl⟩
    ·exact g
    ·exact absurd (fun d hd hh => ih (by omega) d ((hS.nxt i _ hx).2 d hd hh)) (h.nrd q hq)
 intro e he
 exact key S.length (Nat.le_refl _) e (by rw [List.take_length];exact he)
end Go.Proofs.YtmllihbhphnolaaGreat
namespace Go.Proofs.YtmllihbhphnolaaGreat
open Go Go.CF
set_option maxRecDepth 20000
def Cov (out : List SpS) (r n : Int) : Prop := ∃ s ∈ out, s.1 = r ∧ s.2.1 ≤ n ∧ n ≤ s.2.2
def szS : List SpS → Int
 | [] => 0
 | s :: l => s.2.2 - s.2.1 + 1 + szS l
theorem szS_app : ∀ a b : List SpS, szS (a ++ b) = szS a + szS b
 | [], b => by simp [szS]
 | s :: a, b => by simp only [List.cons_append, szS, szS_app a b];omega
theorem cov_app (a b : List SpS) (r n : Int) : Cov (a ++ b) r n ↔ Cov a r n ∨ Cov b r n := by
 unfold Cov
 constructor
 ·rintro ⟨s, hs, h⟩
  rcases List.mem_append.1 hs with hs|hs
  ·exact .inl ⟨s, hs, h⟩
  ·exact .inr ⟨s, hs, h⟩
 ·rintro (⟨s, hs, h⟩|⟨s, hs, h⟩)
  ·exact ⟨s, List.mem_append_left _ hs, h⟩
  ·exact ⟨s, List.mem_append_right _ hs, h⟩
theorem cov_one (s : SpS) (r n : Int) : Cov [s] r n ↔ s.1 = r ∧ s.2.1 ≤ n ∧ n ≤ s.2.2 := by
 unfold Cov
 constructor
 ·rintro ⟨x, hx, h⟩;rw [List.mem_singleton.1 hx] at h;exact h
 ·intro h;exact ⟨s, List.mem_cons_self, h⟩
theorem wnt1_nil (hb : Int → Int → Bool) (r n : Int) : wnt1 hb r n [] = if hb r n = true then [] else [(r, n, n)] := by
 unfold wnt1;rfl
theorem wnt1_snoc (hb : Int → Int → Bool) (r n : Int) (o : List SpS) (s : SpS) : wnt1 hb r n (o ++ [s]) = if hb r n = true then o ++ [s] else if s.1 = r ∧ s.2.2 = n - 1 then o ++ [(s.1, s.2.1, n)] else (o ++ [s]) ++ [(r, n, n)] := by
 unfold wnt1
 rw [show (o ++ [s])[(o ++ [s]).length - 1]? = some s by simp]
 have : (o ++ [s]).set ((o ++ [s]).length - 1) (s.1, s.2.1, n) = o ++ [(s.1, s.2.1, n)] := by simp
 simp only [this]
theorem wnt1_ok {N : Nat} {hb : Int → Int → Bool} {r n : Int} {out : List SpS} (hr : 0 ≤ r ∧ r < (N : Int)) (hn : 1 ≤ n ∧ n ≤ 1024) (h : ∀ s ∈ out, okSp N s) :
  (∀ s ∈ wnt1 hb r n out, okSp N s) ∧ (∀ q j, Cov (wnt1 hb r n out) q j ↔ Cov out q j ∨ q = r ∧ j = n ∧ hb r n = false) ∧ szS (wnt1 hb r n out) = szS out + (if hb r n = true then 0 else 1) := by
 have hone : okSp N (r, n, n) := ⟨hr.1, hr.2, hn.1, Int.le_refl _, hn.2⟩
 cases hb1 : hb r n with
 | true =>
  have hw : wnt1 hb r n out = out := by unfold wnt1;rw [if_pos hb1]
  rw [hw]
  exact ⟨h, fun q j => ⟨.inl, fun h9 => h9.elim id fun h8 => (nomatch h8.2.2)⟩, by simp⟩
 | false =>
  have happ : ∀ o : List SpS, (∀ s ∈ o, okSp N s) → (∀ s ∈ o ++ [(r, n, n)], okSp N s) ∧ (∀ q j, Cov (o ++ [(r, n, n)]) q j ↔ Cov o q j ∨ q = r ∧ j = n ∧ false = false) ∧ szS (o ++ [(r, n, n)]) = szS o + 1 := fun o ho => by
   refine ⟨fun s hs => ?_, fun q j => ?_, ?_⟩
   ·rcases List.mem_append.1 hs with hs|hs
    ·exact ho s hs
    ·rw [List.mem_singleton.1 hs];exact hone
   ·rw [cov_app, cov_one]
    refine or_congr Iff.rfl ⟨fun h9 => ⟨h9.1.symm, by have := h9.2;simp only at this;omega, rfl⟩, fun h9 => ⟨h9.1.symm, by simp only;omega, by simp only;omega⟩⟩
   ·rw [szS_app];simp only [szS];omega
  rcases List.eq_nil_or_concat out with rfl|⟨o, s, rfl⟩
  ·rw [wnt1_nil, hb1, if_neg Bool.false_ne_true]
   have := happ [] (fun s hs => (nomatch hs))
   rw [List.nil_append] at this
   exact this
  ·rw [List.concat_eq_append] at h ⊢
   rw [wnt1_snoc, hb1, if_neg Bool.false_ne_true]
   by_cases hc : s.1 = r ∧ s.2.2 = n - 1
   ·rw [if_pos hc]
    obtain ⟨r', f, t⟩ := s
    obtain ⟨rfl, h2⟩ := hc
    simp only at h2
    subst h2
    obtain ⟨k1, k2, k3, k4, k5⟩ := h (r', f, n - 1) (List.mem_append_right _ List.mem_cons_self)
    simp only at k1 k2 k3 k4 k5
    refine ⟨fun s hs => ?_, fun q j => ?_, ?_⟩
    ·rcases List.mem_append.1 hs with hs|hs
     ·exact h s (List.mem_append_left _ hs)
     ·rw [List.mem_singleton.1 hs]
      exact ⟨k1, k2, k3, by simp only;omega, hn.2⟩
    ·rw [cov_app, cov_app, cov_one, cov_one, or_assoc]
     refine or_congr Iff.rfl ?_
     simp only
     constructor
     ·intro h9
      by_cases hj : j = n
      ·exact .inr ⟨h9.1.symm, hj, trivial⟩
      ·exact .inl ⟨h9.1, h9.2.1, by omega⟩
     ·rintro (h9|h9)
      ·exact ⟨h9.1, h9.2.1, by omega⟩
      ·exact ⟨h9.1.symm, by omega, by omega⟩
    ·simp only [szS_app, szS, if_neg Bool.false_ne_true];omega
   ·rw [if_neg hc]
    exact happ _ h
theorem wntR_ok {N : Nat} {hb : Int → Int → Bool} {r : Int} (hr : 0 ≤ r ∧ r < (N : Int)) : ∀ (k : Nat) (n : Int) (out : List SpS), 1 ≤ n → n + k ≤ 1025 → (∀ s ∈ out, okSp N s) →
  (∀ s ∈ wntR hb r k n out, okSp N s) ∧ ∀ q j, Cov (wntR hb r k n out) q j ↔ Cov out q j ∨ q = r ∧ n ≤ j ∧ j < n + k ∧ hb r j = false
 | 0, n, out, _, _, h => ⟨h, fun q j => ⟨.inl, fun h9 => h9.elim id fun h8 => by omega⟩⟩
 | k + 1, n, out, h1, h2, h => by
  obtain ⟨g1, g2, g3⟩ := wnt1_ok (hb := hb) (n := n) hr (by omega) h
  obtain ⟨i1, i2⟩ := wntR_ok hr (hb := hb) k (n + 1) _ (by omega) (by omega) g1
  refine ⟨i1, fun q j => ?_⟩
  rw [wntR, i2, g2, or_assoc]
  refine or_congr Iff.rfl ⟨?_, ?_⟩
  ·rintro (h9|h9)
   ·exact ⟨h9.1, by omega, by omega, by rw [h9.2.1];exact h9.2.2⟩
   ·exact ⟨h9.1, by omega, by omega, h9.2.2.2⟩
  ·rintro ⟨h9, h8, h7, h6⟩
   by_cases hj : j = n
   ·exact .inl ⟨h9, hj, by rw [← hj];exact h6⟩
   ·exact .inr ⟨h9, by omega, by omega, h6⟩
theorem wntL_ok {N : Nat} {hb : Int → Int → Bool} : ∀ (l out : List SpS), (∀ s ∈ l, okSp N s) → (∀ s ∈ out, okSp N s) →
  (∀ s ∈ wntL hb l out, okSp N s) ∧ ∀ q j, Cov (wntL hb l out) q j ↔ Cov out q j ∨ Cov l q j ∧ hb q j = false
 | [], out, _, h => ⟨h, fun q j => ⟨.inl, fun h9 => h9.elim id fun ⟨⟨s, hs, _⟩, _⟩ => (nomatch hs)⟩⟩
 | s :: l, out, hl, h => by
  obtain ⟨k1, k2, k3, k4, k5⟩ := hl s List.mem_cons_self
  obtain ⟨g1, g2⟩ := wntR_ok (hb := hb) ⟨k1, k2⟩ (s.2.2 + 1 - s.2.1).toNat s.2.1 out k3 (by omega) h
  obtain ⟨i1, i2⟩ := wntL_ok (hb := hb) l _ (fun x hx => hl x (List.mem_cons_of_mem _ hx)) g1
  refine ⟨i1, fun q j => ?_⟩
  rw [wntL, i2, g2, or_assoc]
  refine or_congr Iff.rfl ⟨?_, ?_⟩
  ·rintro (⟨h9, h8, h7, h6⟩|⟨⟨x, hx, h9⟩, h8⟩)
   ·exact ⟨⟨s, List.mem_cons_self, h9.symm, h8, by omega⟩, by rw [h9];exact h6⟩
   ·exact ⟨⟨x, List.mem_cons_of_mem _ hx, h9⟩, h8⟩
  ·rintro ⟨⟨x, hx, h9, h8, h7⟩, h6⟩
   rcases List.mem_cons.1 hx with rfl|hx
   ·exact .inl ⟨h9.symm, h8, by omega, by rw [h9];exact h6⟩
   ·exact .inr ⟨⟨x, hx, h9, h8, h7⟩, h6⟩
theorem misF_ok {a b : List Int} (ha : ValC a) (hb : ValC b) (hab : a.length = b.length) : (∀ s ∈ misF a b, okSp a.length s) ∧ ∀ q j, Cov (misF a b) q j ↔ 0 ≤ q ∧ ∃ x y, a[q.toNat]? = some x ∧ b[q.toNat]? = some y ∧ x < j ∧ j ≤ y := by
 refine ⟨fun s hs => ?_, fun q j => ⟨?_, ?_⟩⟩
 ·obtain ⟨i, x, y, h1, h2, h3, h4, rfl⟩ := misN_mem.1 hs
  have a1 := ha.1 x (List.mem_of_getElem? h2)
  have a2 := hb.1 y (List.mem_of_getElem? h3)
  unfold rngK at a1 a2
  exact ⟨by simp only;omega, by simp only;omega, by simp only;omega, by simp only;omega, by simp only;omega⟩
 ·rintro ⟨s, hs, h9, h8, h7⟩
  obtain ⟨i, x, y, h1, h2, h3, h4, rfl⟩ := misN_mem.1 hs
  simp only at h9 h8 h7
  subst h9
  exact ⟨by omega, x, y, by rw [Int.toNat_natCast];exact h2, by rw [Int.toNat_natCast];exact h3, by omega, by omega⟩
 ·rintro ⟨h0', x, y, h1, h2, h3, h4⟩
  exact ⟨((q.toNat : Int), x + 1, y), misN_mem.2 ⟨q.toNat, x, y, (List.getElem?_eq_some_iff.1 h1).1, h1, h2, by omega, rfl⟩, by simp only;omega, by simp only;omega, by simp only;omega⟩
end Go.Proofs.YtmllihbhphnolaaGreat
namespace Go.Proofs.YtmllihbhphnolaaGreat
open Go Go.CF
set_option maxRecDepth 20000
noncomputable def offL (D l : List EvS) : List EvS := l.filter fun e => decide (e ∉ D)
theorem off_mem {D l : List EvS} {e : EvS} : e ∈ offL D l ↔ e ∈ l ∧ e ∉ D := by
 unfold offL;rw [List.mem_filter, decide_eq_true_iff]
abbrev heldE (p : PrS) : List EvS := p.H.map (·.2)
theorem sndL_eq {m : ModS} {ld : List Int} {l Da Db : List EvS} {a b : PrS} (hs : SuitS m ld l) (ha : InvP m ld l Da a) (hb : InvP m ld l Db b) (most : Int) (hmo : 1 ≤ most ∧ most ≤ 1024) :
  sndL (n0 l) most a b = (offL (Db ++ heldE b) a.s.evs).take most.toNat := by
 have hc := hs.e.2.2.1
 obtain ⟨e0, he0⟩ := get_of (l := l) (i := 0) hs.ne
 have hr := n0_rng hc (List.mem_of_getElem? he0)
 have va := clk_valC hc ha.buf.ext.sub hr
 have vb := clk_valC hc hb.buf.ext.sub hr
 have hla : (clkE (n0 l) Da).length = n0 l := clkE_len ..
 have hlb : (clkE (n0 l) Db).length = n0 l := clkE_len ..
 obtain ⟨m1, m2⟩ := misF_ok vb va (by rw [hla, hlb])
 obtain ⟨w1, w2⟩ := wntL_ok (hb := hldB b.H) (misF (clkE (n0 l) Db) (clkE (n0 l) Da)) [] m1 (fun s hs => (nomatch hs))
 rw [hlb] at w1
 unfold sndL
 rw [ha.sto.clock, hb.sto.clock, wantsF, if_pos ⟨va, by rw [hla, hlb]⟩]
 rw [serve_ok _ _ _ _ ⟨hmo, w1⟩]
 simp only
 congr 1
 unfold offL
 refine List.filter_congr fun e he => ?_
 have heD := ha.evs.mem he
 have hel := ha.buf.ext.sub e heD
 have hfe := (hc.2.2.1 e hel)
 have hrp := rep_rng hfe.1
 have hha := (clk_has hc ha.buf.ext.all hel).2 heD
 have hheld : hldB b.H e.rep e.num = true ↔ e ∈ heldE b := by
  unfold hldB
  rw [decide_eq_true_iff]
  constructor
  ·rintro ⟨q, hq, h1, h2⟩
   rw [← uniqP_of hc.2.1 _ (hb.buf.hin q hq).1 _ hel h1 h2]
   exact List.mem_map_of_mem hq
  ·intro h9
   obtain ⟨q, hq, h9⟩ := List.mem_map.1 h9
   exact ⟨q, hq, by rw [h9], by rw [h9]⟩
 unfold inSp
 refine decide_eq_decide.2 ?_
 have hcov := w2 e.rep e.num
 constructor
 ·intro h9 h8
  obtain ⟨s, hs1, hs2⟩ := h9
  have h7 : Cov (wntL (hldB b.H) (misF (clkE (n0 l) Db) (clkE (n0 l) Da)) []) e.rep e.num := ⟨s, hs1, hs2⟩
  rcases hcov.1 h7 with ⟨x, hx, _⟩|⟨h6, h5⟩
  ·cases hx
  ·rcases List.mem_append.1 h8 with h8|h8
   ·have hhb := (clk_has hc hb.buf.ext.all hel).2 h8
    obtain ⟨_, x, y, x1, y1, x2, y2⟩ := (m2 _ _).1 h6
    obtain ⟨_, _, _, z, z1, z2⟩ := hhb
    rw [x1] at z1;cases z1
    omega
   ·rw [hheld.2 h8] at h5;cases h5
 ·intro h9
  have h8 : Cov (wntL (hldB b.H) (misF (clkE (n0 l) Db) (clkE (n0 l) Da)) []) e.rep e.num := by
   refine hcov.2 (.inr ⟨(m2 _ _).2 ⟨hrp.1, ?_⟩, ?_⟩)
   ·obtain ⟨_, _, g3, y, y1, y2⟩ := hha
    obtain ⟨x, hx⟩ := get_of (l := clkE (n0 l) Db) (i := e.rep.toNat) (by rw [hlb, ← hla];exact (List.getElem?_eq_some_iff.1 y1).1)
    refine ⟨x, y, hx, y1, ?_, y2⟩
    rcases Int.lt_or_le x e.num with h7|h7
    ·exact h7
    ·exact absurd (List.mem_append_left _ ((clk_has hc hb.buf.ext.all hel).1 ⟨vb, hrp.1, g3, x, hx, h7⟩)) h9
   ·cases h7 : hldB b.H e.rep e.num with
    | false => rfl
    | true => exact absurd (List.mem_append_right _ (hheld.1 h7)) h9
  exact h8
/-! ### One direction -/
structure SndR (m : ModS) (ld : List Int) (l Da Db : List EvS) (a b : PrS) (most : Int) (X : List EvS) : Prop where
 zero : (sndF m (n0 l) most a b).1 = 0
 tak : TakR m ld l Db b (sndL (n0 l) most a b) X (sndF m (n0 l) most a b).2
theorem snd_ok {m : ModS} {ld : List Int} {l Da Db : List EvS} {a b : PrS} (hs : SuitS m ld l) (ha : InvP m ld l Da a) (hb : InvP m ld l Db b) (most : Int) (hmo : 1 ≤ most ∧ most ≤ 1024) : ∃ X, SndR m ld l Da Db a b most X := by
 have hsub : ∀ e ∈ sndL (n0 l) most a b, e ∈ l := fun e he => by
  rw [sndL_eq hs ha hb most hmo] at he
  exact ha.buf.ext.sub e (ha.evs.mem (off_mem.1 (List.mem_of_mem_take he)).1)
 obtain ⟨X, p', t1, t2⟩ := takeF_inv hs hsub hb
 exact ⟨X, by rw [sndF, t1], by rw [sndF, t1];exact t2⟩
noncomputable def unk (l D : List EvS) (p : PrS) : Nat := (offL (D ++ heldE p) l).length
theorem uniq_nodupE {l : List EvS} (h : Uniq l) : l.Nodup := (uniq_pair.1 h).imp fun {a b} h9 h8 => h9 (by rw [h8])
theorem sndL_nodup {m : ModS} {ld : List Int} {l Da Db : List EvS} {a b : PrS} (hs : SuitS m ld l) (ha : InvP m ld l Da a) (hb : InvP m ld l Db b) (most : Int) (hmo : 1 ≤ most ∧ most ≤ 1024) : (sndL (n0 l) most a b).Nodup := by
 rw [sndL_eq hs ha hb most hmo]
 exact ((extO_nodup ha.buf.ext).sublist ha.evs |>.filter _).sublist (List.take_sublist _ _)
theorem snd_unk {m : ModS} {ld : List Int} {l Da Db X : List EvS} {a b : PrS} (hs : SuitS m ld l) (ha : InvP m ld l Da a) (hb : InvP m ld l Db b) (most : Int) (hmo : 1 ≤ most ∧ most ≤ 1024) (h : SndR m ld l Da Db a b most X) :
  unk l (Db ++ X) (sndF m (n0 l) most a b).2 + (sndL (n0 l) most a b).length ≤ unk l Db b := by
 have hc := hs.e.2.2.1
 have hnd := sndL_nodup hs ha hb most hmo
 have hL := sndL_eq hs ha hb most hmo
 unfold unk
 rw [← List.length_append]
 refine List.Nodup.length_le_of_subset (List.nodup_append.2 ⟨(uniq_nodupE hc.2.1).filter _, hnd, fun x hx y hy h9 => ?_⟩) fun x hx => ?_
 ·subst h9
  refine (off_mem.1 hx).2 ?_
  rcases h.tak.got x hy with g|⟨q, hq, rfl⟩
  ·exact List.mem_append_left _ g
  ·exact List.mem_append_right _ (List.mem_map_of_mem hq)
 ·rcases List.mem_append.1 hx with hx|hx
  ·obtain ⟨h1, h2⟩ := off_mem.1 hx
   refine off_mem.2 ⟨h1, fun h9 => h2 ?_⟩
   rcases List.mem_append.1 h9 with h9|h9
   ·exact List.mem_append_left _ (List.mem_append_left _ h9)
   ·obtain ⟨q, hq, rfl⟩ := List.mem_map.1 h9
    rcases h.tak.keep q hq with g|g
    ·exact List.mem_append_left _ g
    ·exact List.mem_append_right _ (List.mem_map_of_mem g)
  ·rw [hL] at hx
   obtain ⟨h1, h2⟩ := off_mem.1 (List.mem_of_mem_take hx)
   exact off_mem.2 ⟨ha.buf.ext.sub x (ha.evs.mem h1), h2⟩
def Covers (Da Db : List EvS) (a : PrS) : Prop := ∀ e ∈ Da, e ∉ Db → e ∈ a.s.evs
theorem snd_nil {m : ModS} {ld : List Int} {l Da Db : List EvS} {a b : PrS} (hs : SuitS m ld l) (ha : InvP m ld l Da a) (hb : InvP m ld l Db b) (most : Int) (hmo : 1 ≤ most ∧ most ≤ 1024) (hcv : Covers Da Db a) (h : sndL (n0 l) most a b = []) : ∀ e ∈ Da, e ∈ Db := by
 refine all_here hs hb Da ha.buf.ext fun e he => ?_
 rw [sndL_eq hs ha hb most hmo] at h
 have hz : offL (Db ++ heldE b) a.s.evs = [] := by
  rcases List.take_eq_nil_iff.1 h with h9|h9
  ·omega
  ·exact h9
 by_cases h1 : e ∈ Db
 ·exact .inl h1
 ·by_cases h2 : e ∈ heldE b
  ·obtain ⟨q, hq, h9⟩ := List.mem_map.1 h2
   exact .inr ⟨q, hq, h9⟩
  ·have : e ∈ offL (Db ++ heldE b) a.s.evs := off_mem.2 ⟨hcv e he h1, fun h9 => (List.mem_append.1 h9).elim h1 h2⟩
   rw [hz] at this;cases this
theorem take_nil {m : ModS} {p : PrS} (h : p.err = 0) : takeF m [] p = (0, p, []) := by rw [takeF, if_neg (fun h9 => h9 h)];rfl
theorem snd_id {m : ModS} {N : Nat} {most : Int} {a b : PrS} (hb : b.err = 0) (h : sndL N most a b = []) : sndF m N most a b = (0, b) := by rw [sndF, h, take_nil hb]
structure RecR (m : ModS) (ld : List Int) (l Da Db : List EvS) (a b : PrS) (Xa Xb : List EvS) (a' b' : PrS) : Prop where
 ia : InvP m ld l (Da ++ Xa) a'
 ib : InvP m ld l (Db ++ Xb) b'
 ea : a'.s.evs = a.s.evs ++ Xa
 eb : b'.s.evs = b.s.evs ++ Xb
 ba : a'.s.base = a.s.base
 bb : b'.s.base = b.s.base
 same : ∀ e, e ∈ Da ++ Xa ↔ e ∈ Db ++ Xb
 new : ∀ e ∈ Da ++ Xa, e ∈ Da ∨ e ∈ Db ∨ e ∈ heldE a ∨ e ∈ heldE b
theorem covers_app {Da Db X : List EvS} {a a' : PrS} (h : Covers Da Db a) (he : a'.s.evs = a.s.evs ++ X) (Y : List EvS) : Covers (Da ++ X) (Db ++ Y) a' := fun e h1 h2 => by
 rw [he]
 rcases List.mem_append.1 h1 with h1|h1
 ·exact List.mem_append_left _ (h e h1 fun h9 => h2 (List.mem_append_left _ h9))
 ·exact List.mem_append_right _ h1
theorem rec_ex {m : ModS} {ld : List Int} {l : List EvS} (hs : SuitS m ld l) (most : Int) (hmo : 1 ≤ most ∧ most ≤ 1024) : ∀ (μ : Nat) (Da Db : List EvS) (a b : PrS), unk l Da a + unk l Db b ≤ μ → InvP m ld l Da a → InvP m ld l Db b → Covers Da Db a → Covers Db Da b →
  ∃ R S a' b' Xa Xb, RecK m (n0 l) 200 most a b R S a' b' ∧ R ≤ μ + 1 ∧ S ≤ μ ∧ RecR m ld l Da Db a b Xa Xb a' b' := by
 intro μ
 induction μ using Nat.strongRecOn with
 | ind μ ih =>
  intro Da Db a b hμ ha hb ca cb
  obtain ⟨X, hX⟩ := snd_ok hs ha hb most hmo
  obtain ⟨b1, hb1⟩ : ∃ b1, b1 = (sndF m (n0 l) most a b).2 := ⟨_, rfl⟩
  have hib := hX.tak.inv
  rw [← hb1] at hib
  obtain ⟨Y, hY⟩ := snd_ok hs hib ha most hmo
  obtain ⟨a1, ha1⟩ : ∃ a1, a1 = (sndF m (n0 l) most b1 a).2 := ⟨_, rfl⟩
  have hia := hY.tak.inv
  rw [← ha1] at hia
  have u1 := snd_unk hs ha hb most hmo hX
  have u2 := snd_unk hs hib ha most hmo hY
  rw [← hb1] at u1
  rw [← ha1] at u2
  have fa := ha.fine hs;have fb := hb.fine hs;have fb1 := hib.fine hs
  by_cases hz : (sndL (n0 l) most a b).length + (sndL (n0 l) most b1 a).length = 0
  ·have z1 : sndL (n0 l) most a b = [] := List.eq_nil_of_length_eq_zero (by omega)
   have z2 : sndL (n0 l) most b1 a = [] := List.eq_nil_of_length_eq_zero (by omega)
   have e1 : b1 = b := by rw [hb1, snd_id hb.err z1]
   have e2 : a1 = a := by rw [ha1, snd_id ha.err z2]
   have g1 := snd_nil hs ha hb most hmo ca z1
   rw [e1] at z2
   have g2 := snd_nil hs hb ha most hmo cb z2
   have hk : RecK m (n0 l) 200 most a b 1 0 (sndF m (n0 l) most (sndF m (n0 l) most a b).2 a).2 (sndF m (n0 l) most a b).2 :=
    .last fa fb (by rw [← hb1];exact fb1) hX.zero (by rw [← hb1];exact hY.zero) z1 (by rw [← hb1, e1];exact z2)
   rw [← hb1, ← ha1, e1, e2] at hk
   exact ⟨1, 0, a, b, [], [], hk, by omega, by omega, ⟨by rw [List.append_nil];exact ha, by rw [List.append_nil];exact hb, by simp, by simp, rfl, rfl, fun e => by rw [List.append_nil, List.append_nil];exact ⟨g1 e, g2 e⟩, fun e he => by rw [List.append_nil] at he;exact .inl he⟩⟩
  ·have cb1 : Covers (Db ++ X) (Da ++ Y) b1 := covers_app cb (by rw [hb1];exact hX.tak.evs) Y
   have ca1 : Covers (Da ++ Y) (Db ++ X) a1 := covers_app ca (by rw [ha1];exact hY.tak.evs) X
   obtain ⟨R, S, a', b', Xa, Xb, k1, k2, k3, k4⟩ := ih (unk l (Da ++ Y) a1 + unk l (Db ++ X) b1) (by omega) (Da ++ Y) (Db ++ X) a1 b1 (Nat.le_refl _) hia hib ca1 cb1
   have hk : RecK m (n0 l) 200 most a b (R + 1) ((sndL (n0 l) most a b).length + (sndL (n0 l) most (sndF m (n0 l) most a b).2 a).length + S) a' b' :=
    .step fa fb (by rw [← hb1];exact fb1) hX.zero (by rw [← hb1];exact hY.zero) (by rw [← hb1];omega) (by rw [← hb1, ← ha1];exact k1)
   rw [← hb1] at hk
   have oX : ∀ e ∈ X, e ∈ Da ∨ e ∈ heldE b := fun e he => by
    rcases hX.tak.out e he with g|⟨q, hq, rfl⟩
    ·rw [sndL_eq hs ha hb most hmo] at g
     exact .inl (ha.evs.mem (off_mem.1 (List.mem_of_mem_take g)).1)
    ·exact .inr (List.mem_map_of_mem hq)
   have oY : ∀ e ∈ Y, e ∈ Db ++ X ∨ e ∈ heldE a := fun e he => by
    rcases hY.tak.out e he with g|⟨q, hq, rfl⟩
    ·rw [sndL_eq hs hib ha most hmo] at g
     exact .inl (hib.evs.mem (off_mem.1 (List.mem_of_mem_take g)).1)
    ·exact .inr (List.mem_map_of_mem hq)
   have hha : ∀ e ∈ heldE a1, e ∈ heldE a ∨ e ∈ Db ++ X := fun e he => by
    obtain ⟨q, hq, rfl⟩ := List.mem_map.1 he
    rw [ha1] at hq
    rcases hY.tak.mem q hq with g|g
    ·exact .inl (List.mem_map_of_mem g)
    ·rw [sndL_eq hs hib ha most hmo] at g
     exact .inr (hib.evs.mem (off_mem.1 (List.mem_of_mem_take g)).1)
   have hhb : ∀ e ∈ heldE b1, e ∈ heldE b ∨ e ∈ Da := fun e he => by
    obtain ⟨q, hq, rfl⟩ := List.mem_map.1 he
    rw [hb1] at hq
    rcases hX.tak.mem q hq with g|g
    ·exact .inl (List.mem_map_of_mem g)
    ·rw [sndL_eq hs ha hb most hmo] at g
     exact .inr (ha.evs.mem (off_mem.1 (List.mem_of_mem_take g)).1)
   have nX : ∀ e ∈ Db ++ X, e ∈ Da ∨ e ∈ Db ∨ e ∈ heldE a ∨ e ∈ heldE b := fun e he => by
    rcases List.mem_append.1 he with g|g
    ·exact .inr (.inl g)
    ·rcases oX e g with g|g
     ·exact .inl g
     ·exact .inr (.inr (.inr g))
   have nY : ∀ e ∈ Da ++ Y, e ∈ Da ∨ e ∈ Db ∨ e ∈ heldE a ∨ e ∈ heldE b := fun e he => by
    rcases List.mem_append.1 he with g|g
    ·exact .inl g
    ·rcases oY e g with g|g
     ·exact nX e g
     ·exact .inr (.inr (.inl g))
   refine ⟨R + 1, _, a', b', Y ++ Xa, X ++ Xb, hk, by omega, by omega, ⟨by rw [← List.append_assoc];exact k4.ia, by rw [← List.append_assoc];exact k4.ib, ?_, ?_, by rw [k4.ba, ha1, hY.tak.base], by rw [k4.bb, hb1, hX.tak.base], fun e => by rw [← List.append_assoc, ← List.append_assoc];exact k4.same e, fun e he => ?_⟩⟩
   ·rw [k4.ea, ha1, hY.tak.evs, List.append_assoc]
   ·rw [k4.eb, hb1, hX.tak.evs, List.append_assoc]
   ·rw [← List.append_assoc] at he
    rcases k4.new e he with g|g|g|g
    ·exact nY e g
    ·exact nX e g
    ·rcases hha e g with g|g
     ·exact .inr (.inr (.inl g))
     ·exact nX e g
    ·rcases hhb e g with g|g
     ·exact .inr (.inr (.inr g))
     ·exact .inl g
end Go.Proofs.YtmllihbhphnolaaGreat
namespace Go.Proofs.YtmllihbhphnolaaGreat
open Go Go.CF
set_option maxRecDepth 20000
theorem ext_prefix {l A B : List EvS} (h : ExtO l (A ++ B)) : ExtO l A := by
 refine ⟨fun e he => h.sub e (List.mem_append_left _ he), fun i e he => ?_⟩
 have hi := (List.getElem?_eq_some_iff.1 he).1
 have := h.nxt i e (by rw [List.getElem?_append_left hi];exact he)
 rwa [List.take_append_of_le_length (by omega)] at this
theorem off_app {D a b : List EvS} : offL D (a ++ b) = offL D a ++ offL D b := List.filter_append ..
theorem ext_off {l Da Db : List EvS} (ha : ExtO l Da) (hb : ExtO l Db) : ∀ i, i ≤ Da.length → ExtO l (Db ++ offL Db (Da.take i)) := by
 intro i
 induction i with
 | zero => intro _;rw [List.take_zero];simpa [offL] using hb
 | succ i ih =>
  intro hi
  obtain ⟨e, he⟩ := get_of (l := Da) (i := i) (by omega)
  have h1 := ih (by omega)
  obtain ⟨n1, n2⟩ := ha.nxt i e he
  rw [List.take_add_one, he, off_app]
  by_cases hd : e ∈ Db
  ·rw [show offL Db (some e).toList = [] by simp [offL, hd], List.append_nil]
   exact h1
  ·rw [show offL Db (some e).toList = [e] by simp [offL, hd], ← List.append_assoc]
   refine h1.snoc (ha.sub e (List.mem_of_getElem? he)) (fun h9 => ?_) fun d hd2 hh => ?_
   ·rcases List.mem_append.1 h9 with h9|h9
    ·exact hd h9
    ·exact n1 (off_mem.1 h9).1
   ·have := n2 d hd2 hh
    by_cases hdd : d ∈ Db
    ·exact List.mem_append_left _ hdd
    ·exact List.mem_append_right _ (off_mem.2 ⟨this, hdd⟩)
theorem off_sub {evl Da Db : List EvS} (hs : evl.Sublist Da) (hn : Da.Nodup) (h : ∀ e ∈ Da, e ∉ Db → e ∈ evl) : offL Db evl = offL Db Da := by
 refine (hs.filter _).eq_of_length_le ?_
 exact List.Nodup.length_le_of_subset (hn.filter _) fun e he => by
  obtain ⟨h1, h2⟩ := off_mem.1 he
  exact off_mem.2 ⟨h e h1 h2, h2⟩
structure Free (m : ModS) (ld : List Int) (l Da Db : List EvS) (a b : PrS) : Prop where
 ia : InvP m ld l Da a
 ib : InvP m ld l Db b
 na : a.H = []
 nb : b.H = []
 ca : Covers Da Db a
 cb : Covers Db Da b
theorem Free.symm {m : ModS} {ld : List Int} {l Da Db : List EvS} {a b : PrS} (h : Free m ld l Da Db a b) : Free m ld l Db Da b a := ⟨h.ib, h.ia, h.nb, h.na, h.cb, h.ca⟩
theorem free_sndL {m : ModS} {ld : List Int} {l Da Db : List EvS} {a b : PrS} (hs : SuitS m ld l) (h : Free m ld l Da Db a b) (most : Int) (hmo : 1 ≤ most ∧ most ≤ 1024) : sndL (n0 l) most a b = (offL Db Da).take most.toNat := by
 rw [sndL_eq hs h.ia h.ib most hmo, heldE, h.nb, List.map_nil, List.append_nil, off_sub h.ia.evs (extO_nodup h.ia.buf.ext) h.ca]
theorem free_snd {m : ModS} {ld : List Int} {l Da Db X : List EvS} {a b : PrS} (hs : SuitS m ld l) (h : Free m ld l Da Db a b) (most : Int) (hmo : 1 ≤ most ∧ most ≤ 1024) (hX : SndR m ld l Da Db a b most X) :
  Free m ld l Da (Db ++ X) a (sndF m (n0 l) most a b).2 ∧ (∀ e, e ∈ X ↔ e ∈ (offL Db Da).take most.toNat) ∧ X.length = min most.toNat (offL Db Da).length ∧ (offL (Db ++ X) Da).length + X.length = (offL Db Da).length ∧ (offL Da (Db ++ X)).length = (offL Da Db).length := by
 have hL := free_sndL hs h most hmo
 obtain ⟨L, hLd⟩ : ∃ L, L = (offL Db Da).take most.toNat := ⟨_, rfl⟩
 rw [← hLd] at hL ⊢
 have hext : ExtO l (Db ++ L) := by
  have := ext_off h.ia.buf.ext h.ib.buf.ext Da.length (Nat.le_refl _)
  rw [List.take_length, ← List.take_append_drop most.toNat (offL Db Da), ← hLd, ← List.append_assoc] at this
  exact ext_prefix this
 have hgot : ∀ e ∈ Db ++ L, e ∈ Db ++ X := all_here hs hX.tak.inv (Db ++ L) hext fun e he => by
  rcases List.mem_append.1 he with he|he
  ·exact .inl (List.mem_append_left _ he)
  ·exact hX.tak.got e (by rw [hL];exact he)
 have hnd := extO_nodup hX.tak.inv.buf.ext
 have hndL := extO_nodup hext
 have hXL : ∀ e ∈ X, e ∈ L := fun e he => by
  rcases hX.tak.out e he with g|⟨q, hq, _⟩
  ·rw [hL] at g;exact g
  ·rw [h.nb] at hq;cases hq
 have hLX : ∀ e ∈ L, e ∈ X := fun e he => by
  rcases List.mem_append.1 (hgot e (List.mem_append_right _ he)) with g|g
  ·exact absurd rfl ((List.nodup_append.1 hndL).2.2 e g e he)
  ·exact g
 have hlen : X.length = L.length := Nat.le_antisymm ((List.nodup_append.1 hnd).2.1.length_le_of_subset hXL) ((List.nodup_append.1 hndL).2.1.length_le_of_subset hLX)
 have hLo : ∀ e ∈ X, e ∈ Da ∧ e ∉ Db := fun e he => off_mem.1 (List.mem_of_mem_take (by rw [hLd] at hXL;exact hXL e he))
 refine ⟨⟨h.ia, hX.tak.inv, h.na, ?_, fun e h1 h2 => h.ca e h1 fun h9 => h2 (List.mem_append_left _ h9), fun e h1 h2 => ?_⟩, fun e => ⟨hXL e, hLX e⟩, by rw [hlen, hLd, List.length_take], ?_, ?_⟩
 ·refine List.eq_nil_iff_forall_not_mem.2 fun q hq => ?_
  rcases hX.tak.mem q hq with g|g
  ·rw [h.nb] at g;cases g
  ·rw [hL] at g
   exact (hX.tak.inv.buf.hin q hq).2 (hgot _ (List.mem_append_right _ g))
 ·rw [hX.tak.evs]
  rcases List.mem_append.1 h1 with h1|h1
  ·exact List.mem_append_left _ (h.cb e h1 h2)
  ·exact List.mem_append_right _ h1
 ·have hnDa := extO_nodup h.ia.buf.ext
  rw [← List.length_append]
  refine Nat.le_antisymm (List.Nodup.length_le_of_subset (List.nodup_append.2 ⟨hnDa.filter _, (List.nodup_append.1 hnd).2.1, fun x hx y hy h9 => ?_⟩) fun x hx => ?_) (List.Nodup.length_le_of_subset (hnDa.filter _) fun x hx => ?_)
  ·subst h9
   exact (off_mem.1 hx).2 (List.mem_append_right _ hy)
  ·rcases List.mem_append.1 hx with hx|hx
   ·obtain ⟨h1, h2⟩ := off_mem.1 hx
    exact off_mem.2 ⟨h1, fun h9 => h2 (List.mem_append_left _ h9)⟩
   ·exact off_mem.2 (hLo x hx)
  ·obtain ⟨h1, h2⟩ := off_mem.1 hx
   by_cases hxX : x ∈ X
   ·exact List.mem_append_right _ hxX
   ·exact List.mem_append_left _ (off_mem.2 ⟨h1, fun h9 => (List.mem_append.1 h9).elim h2 hxX⟩)
 ·rw [off_app, show offL Da X = [] from List.filter_eq_nil_iff.2 fun e he => by simp [(hLo e he).1], List.append_nil]
theorem rounds_step (k x y : Nat) (hk : 1 ≤ k) (h : 0 < min k x + min k y) : (max x y + k - 1) / k = 1 + (max (x - min k x) (y - min k y) + k - 1) / k := by
 rcases Nat.lt_or_ge (max x y) k with h1|h1
 ·rw [show max (x - min k x) (y - min k y) = 0 by omega, show (0 + k - 1) / k = 0 from Nat.div_eq_of_lt (by omega)]
  rw [show max x y + k - 1 = (max x y - 1) + k by omega, Nat.add_div_right _ (by omega), Nat.div_eq_of_lt (by omega)]
 ·rw [show max (x - min k x) (y - min k y) = max x y - k by omega]
  rw [show max x y + k - 1 = (max x y - k + k - 1) + k by omega, Nat.add_div_right _ (by omega), Nat.add_comm]
theorem rec_count {m : ModS} {ld : List Int} {l : List EvS} (hs : SuitS m ld l) (most : Int) (hmo : 1 ≤ most ∧ most ≤ 1024) {a b a' b' : PrS} {R S : Nat} (h : RecK m (n0 l) 200 most a b R S a' b') : ∀ Da Db, Free m ld l Da Db a b →
  R = 1 + (max (offL Da Db).length (offL Db Da).length + most.toNat - 1) / most.toNat ∧ S = (offL Da Db).length + (offL Db Da).length ∧ a'.H = [] ∧ b'.H = [] := by
 have hk : 1 ≤ most.toNat := by omega
 induction h with
 | @last a b _ _ _ _ _ z1 z2 =>
  intro Da Db hF
  have e1 : (sndF m (n0 l) most a b).2 = b := by rw [snd_id hF.ib.err z1]
  rw [e1] at z2 ⊢
  have e2 : (sndF m (n0 l) most b a).2 = a := by rw [snd_id hF.ia.err z2]
  rw [e2]
  rw [free_sndL hs hF most hmo] at z1
  rw [free_sndL hs hF.symm most hmo] at z2
  have y1 : offL Db Da = [] := (List.take_eq_nil_iff.1 z1).elim (fun h9 => by omega) id
  have y2 : offL Da Db = [] := (List.take_eq_nil_iff.1 z2).elim (fun h9 => by omega) id
  rw [y1, y2]
  refine ⟨?_, rfl, hF.na, hF.nb⟩
  rw [show (max ([] : List EvS).length ([] : List EvS).length + most.toNat - 1) / most.toNat = 0 from Nat.div_eq_of_lt (by simp;omega)]
 | @step a b a' b' r s _ _ _ _ _ hp _ ih =>
  intro Da Db hF
  obtain ⟨X, hX⟩ := snd_ok hs hF.ia hF.ib most hmo
  obtain ⟨f1, f2, f3, f4, f5⟩ := free_snd hs hF most hmo hX
  obtain ⟨Y, hY⟩ := snd_ok hs f1.ib f1.ia most hmo
  obtain ⟨g1, g2, g3, g4, g5⟩ := free_snd hs f1.symm most hmo hY
  obtain ⟨i1, i2, i3, i4⟩ := ih _ _ g1.symm
  have l1 : (sndL (n0 l) most a b).length = X.length := by rw [free_sndL hs hF most hmo, List.length_take, f3]
  have l2 : (sndL (n0 l) most (sndF m (n0 l) most a b).2 a).length = Y.length := by rw [free_sndL hs f1.symm most hmo, List.length_take, g3]
  rw [l1, l2] at hp ⊢
  have hx := rounds_step most.toNat (offL Da Db).length (offL Db Da).length hk (by omega)
  refine ⟨?_, by omega, i3, i4⟩
  rw [i1, hx]
  have a1 : (offL (Da ++ Y) (Db ++ X)).length = (offL Da Db).length - min most.toNat (offL Da Db).length := by omega
  have a2 : (offL (Db ++ X) (Da ++ Y)).length = (offL Db Da).length - min most.toNat (offL Db Da).length := by omega
  rw [a1, a2]
  omega
theorem tak_all {m : ModS} {ld : List Int} {l D l' X S : List EvS} {p p' : PrS} (hs : SuitS m ld l) (hH : p.H = []) (h : TakR m ld l D p l' X p') (hS : ExtO l (D ++ S)) (hl : ∀ e, e ∈ S ↔ e ∈ l') : (∀ e, e ∈ X ↔ e ∈ l') ∧ X.length = S.length ∧ p'.H = [] := by
 have hgot : ∀ e ∈ D ++ S, e ∈ D ++ X := all_here hs h.inv (D ++ S) hS fun e he => by
  rcases List.mem_append.1 he with he|he
  ·exact .inl (List.mem_append_left _ he)
  ·exact h.got e ((hl e).1 he)
 have hnd := extO_nodup h.inv.buf.ext
 have hndS := extO_nodup hS
 have hXl : ∀ e ∈ X, e ∈ l' := fun e he => by
  rcases h.out e he with g|⟨q, hq, _⟩
  ·exact g
  ·rw [hH] at hq;cases hq
 have hSX : ∀ e ∈ S, e ∈ X := fun e he => by
  rcases List.mem_append.1 (hgot e (List.mem_append_right _ he)) with g|g
  ·exact absurd rfl ((List.nodup_append.1 hndS).2.2 e g e he)
  ·exact g
 refine ⟨fun e => ⟨hXl e, fun h9 => hSX e ((hl e).2 h9)⟩, Nat.le_antisymm ((List.nodup_append.1 hnd).2.1.length_le_of_subset fun e he => (hl e).2 (hXl e he)) ((List.nodup_append.1 hndS).2.1.length_le_of_subset hSX), ?_⟩
 refine List.eq_nil_iff_forall_not_mem.2 fun q hq => ?_
 rcases h.mem q hq with g|g
 ·rw [hH] at g;cases g
 ·exact (h.inv.buf.hin q hq).2 (hgot _ (List.mem_append_right _ ((hl _).2 g)))
end Go.Proofs.YtmllihbhphnolaaGreat
namespace Go.Proofs.YtmllihbhphnolaaGreat
open Go Go.CF
set_option maxRecDepth 20000
/-! ### The model -/
def cn8 : ModS := ⟨[], [tC], [⟨#[99]⟩], [⟨0, 0, ⟨[(0, -1)], 0⟩, 0, 0⟩, ⟨0, 0, ⟨[(0, 1)], 9⟩, 0, 0⟩], [⟨⟨#[111]⟩, false, []⟩], [⟨0, [], ⟨[(0, 1)], [], []⟩⟩], []⟩
theorem cn8_a : CallA Tryz.prog 97 [] [] fun r own => ∃ vt vf t1 t2 vc vo d1 va, r = .agg [nl0, .ow vt, .ow vf, .ow vc, .ow vo, .ow va, nl0] ∧ own = [
  arrR va 151 5 [[it 0, nl0, .ow d1, nl0, nl0]] id,
  arrR d1 160 2 [[it 0, it 1]] id,
  arrR vo 227 3 [[sv ⟨#[111]⟩, bl false, nl0]] id,
  arrR vc 225 6 [[it 0, it 0, .ow t1, it 0, it 0, it 0], [it 0, it 0, .ow t2, it 9, it 0, it 0]] id,
  arrR t2 220 2 [[it 0, it 1]] id,
  arrR t1 220 2 [[it 0, it (-1)]] id,
  arrR vf 9 1 [[sv ⟨#[99]⟩]] id,
  arrR vt 157 6 [[sv ⟨#[99]⟩, it 1, nl0, it 0, it 9, it 0]] id] := by
 refine CallA.of pg ord97 Tryz.func97 rfl Tryz.ntmps97 Tryz.results97 rfl fun h0 G0 O0 => ?_
 repeat' (first|refine Sp.h ?_|refine Lk.r rfl ?_|refine Rf.mk rfl ?_|(refine All.mk ?_;intro _)|refine xT ?_|(apply SetAsk.r;focus repeat' constructor)|(apply Fk.r;focus repeat' first|infer_instance|constructor)|refine xN ?_|refine Rf.mk ⟨rfl, rfl, rfl⟩ ?_|fail)
 exact ⟨_, _, .one (.same (.z)), _, _, _, _, _, _, _, _, rfl, rfl⟩
theorem cn8_p : CallP Tryz.prog 97 [] (mdl cn8) := by
 refine CallA.fx cn8_a ?_
 rintro _ _ ⟨vt, vf, t1, t2, vc, vo, d1, va, rfl, rfl⟩
 repeat' (first
  | exact FX.nil
  | (apply FX.sl;(focus repeat constructor);(focus exact Nat.le_of_ble_eq_true rfl))
  | apply FX.agg
  | (apply FX.le;(focus first|exact ALe.nil|exact ALe.refl _)))
theorem cn8_mrg : mrgF cn8 = [] := by simp [mrgF, mrgL, cn8, isStrict, tC]
theorem cn8_str : strF cn8 = 1 := by simp [strF, strN, cn8, isStrict, szF, prodF, tC]
theorem cn8_lay : LayOK cn8.sorts cn8.tables := by
 refine ⟨by simp [cn8], fun x hx => by simp [cn8] at hx, by simp [cn8], fun t ht => ?_⟩
 simp only [cn8, List.mem_cons, List.not_mem_nil, or_false] at ht
 subst ht
 simp [TabOK, ColOK, Sound, cn8, tC]
theorem cn8_ok : MOK cn8 := by
 refine ⟨cn8_lay, by simp [cn8], by simp [cn8], fun a ha => ?_, by rw [cn8_str];decide, by rw [cn8_mrg];decide⟩
 simp only [cn8, List.mem_cons, List.not_mem_nil, or_false] at ha
 subst ha
 refine ⟨by simp, by simp, by simp, fun p hp => ?_, fun p hp => by simp at hp⟩
 simp only [List.mem_cons, List.not_mem_nil, or_false] at hp
 subst hp
 rw [cn8_str];decide
/-! ### Three events -/
def xa : EvS := ⟨0, 1, 1, [0, 0], 0, 0, 0, 0, 0, 0, 0, 0, 1⟩
def xc : EvS := ⟨0, 2, 2, [1, 0], 0, 0, 0, 0, 0, 0, 0, 0, 2⟩
def xb : EvS := ⟨1, 1, 1, [0, 0], 0, 0, 0, 0, 0, 0, 0, 0, 1⟩
abbrev x3 : List EvS := [xa, xc, xb]
theorem xa_f : FormedE xa := ⟨val2 0 0 (by decide) (by decide), by decide, ⟨0, rfl, rfl⟩, by decide, by unfold Btw xa;decide, .inl ⟨rfl, by unfold Sub0 Btw xa;decide, by unfold GiveZ xa;decide⟩⟩
theorem xc_f : FormedE xc := ⟨val2 1 0 (by decide) (by decide), by decide, ⟨1, rfl, rfl⟩, by decide, by unfold Btw xc;decide, .inl ⟨rfl, by unfold Sub0 Btw xc;decide, by unfold GiveZ xc;decide⟩⟩
theorem xb_f : FormedE xb := ⟨val2 0 0 (by decide) (by decide), by decide, ⟨0, rfl, rfl⟩, by decide, by unfold Btw xb;decide, .inl ⟨rfl, by unfold Sub0 Btw xb;decide, by unfold GiveZ xb;decide⟩⟩
theorem x3_mem {e : EvS} (h : e ∈ x3) : e = xa ∨ e = xc ∨ e = xb := by simpa using h
theorem x3_f {e : EvS} (h : e ∈ x3) : FormedE e := by
 rcases x3_mem h with rfl|rfl|rfl
 ·exact xa_f
 ·exact xc_f
 ·exact xb_f
theorem x3_uniq : Uniq x3 := uniq_pair.2 (by simp [nm, xa, xc, xb])
theorem x3_closed : ClosedE x3 := by
 refine ⟨by simp, x3_uniq, fun e he => ⟨x3_f he, by rcases x3_mem he with rfl|rfl|rfl <;> rfl⟩, fun e he r n hr i h1 h2 => ?_⟩
 rcases x3_mem he with rfl|rfl|rfl
 ·have := List.mem_of_getElem? hr;simp [xa] at this;omega
 ·match r with
  | 0 =>
   simp [xc] at hr
   refine ⟨xa, by simp, rfl, by show (1 : Int) = i;omega, ⟨(alike2 _ _).2 ⟨xa_f.1, xc_f.1, rfl⟩, ins_2 (by decide) (by decide)⟩, by decide⟩
  | 1 => simp [xc] at hr;omega
  | r + 2 => simp [xc] at hr
 ·have := List.mem_of_getElem? hr;simp [xb] at this;omega
theorem x3_suit : SuitS cn8 [0] x3 := by
 refine ⟨⟨cn8_ok, ⟨by simp, fun e he => by rcases x3_mem he with rfl|rfl|rfl <;> simp [xa, xb, xc]⟩, x3_closed, fun a ha u hu i t _ ht => ?_, fun e he => ?_⟩, by simp, by rw [cn8_str];rfl, by simp, fun a ha p hp => ?_⟩
 ·rw [cn8_mrg] at ht;simp at ht
 ·exact ⟨x3_f he, by rcases x3_mem he with rfl|rfl|rfl <;> rfl, fun _ => by rcases x3_mem he with rfl|rfl|rfl <;> decide⟩
 ·simp only [cn8, List.mem_cons, List.not_mem_nil, or_false] at ha
  subst ha
  simp at hp;subst hp;decide
theorem no_dep {e : EvS} (h : e.past = [0, 0]) (d : EvS) : ¬ HasC e.past d.rep d.num := fun ⟨_, _, h1, x, hx, h2⟩ => by
 rw [h] at hx
 have := List.mem_of_getElem? hx
 simp at this
 omega
theorem x3_ab : ExtO x3 [xa, xc] := by
 have h1 : ExtO x3 [xa] := (ExtO.nil x3).snoc (e := xa) (by simp) (by simp) fun d _ hh => absurd hh (no_dep rfl d)
 refine h1.snoc (e := xc) (by simp) (by simp [xa, xc]) fun d hd hh => ?_
 rcases x3_mem hd with rfl|rfl|rfl
 ·exact List.mem_cons_self
 ·obtain ⟨_, _, _, x, hx, h2⟩ := hh
  simp [xc] at hx h2;omega
 ·obtain ⟨_, _, _, x, hx, h2⟩ := hh
  simp [xc, xb] at hx h2;omega
theorem x3_b : ExtO x3 [xb] := (ExtO.nil x3).snoc (e := xb) (by simp) (by simp) fun d _ hh => absurd hh (no_dep rfl d)
end Go.Proofs.YtmllihbhphnolaaGreat
namespace Go.Proofs.YtmllihbhphnolaaGreat
open Go Go.CF
set_option maxRecDepth 20000
structure X3R (pa pb : PrS) (Xa Xb : List EvS) (a' b' : PrS) : Prop where
 ta : takeF cn8 [xa, xc] (newP cn8 2 [0]) = (0, pa, Xa)
 tb : takeF cn8 [xb] (newP cn8 2 [0]) = (0, pb, Xb)
 la : Xa.length = 2
 lb : Xb.length = 1
 rk : RecK cn8 2 200 10 pa pb 2 3 a' b'
 ca : a'.s.now.clock = [2, 1]
 sb : b'.s.now.state = [3]
theorem x3_run : ∃ pa pb Xa Xb a' b', X3R pa pb Xa Xb a' b' := by
 have hs := x3_suit
 obtain ⟨Xa, pa, ta1, ta2⟩ := takeF_inv (l' := [xa, xc]) hs (fun e he => by simp at he;rcases he with rfl|rfl <;> simp) (newP_inv hs)
 obtain ⟨Xb, pb, tb1, tb2⟩ := takeF_inv (l' := [xb]) hs (fun e he => by simp at he;subst he;simp) (newP_inv hs)
 obtain ⟨a1, a2, a3⟩ := tak_all hs rfl ta2 (S := [xa, xc]) x3_ab (fun e => Iff.rfl)
 obtain ⟨b1, b2, b3⟩ := tak_all hs rfl tb2 (S := [xb]) x3_b (fun e => Iff.rfl)
 have ia := ta2.inv
 have ib := tb2.inv
 have ea := ta2.evs
 have eb := tb2.evs
 rw [List.nil_append] at ia ib
 have ea' : pa.s.evs = Xa := ea
 have eb' : pb.s.evs = Xb := eb
 have hF : Free cn8 [0] x3 Xa Xb pa pb := ⟨ia, ib, a3, b3, fun e h _ => by rw [ea'];exact h, fun e h _ => by rw [eb'];exact h⟩
 obtain ⟨R, S, a', b', Ya, Yb, r1, r2, r3, r4⟩ := rec_ex hs 10 (by decide) _ Xa Xb pa pb (Nat.le_refl _) ia ib hF.ca hF.cb
 obtain ⟨c1, c2, _, _⟩ := rec_count hs 10 (by decide) r1 Xa Xb hF
 have o1 : offL Xa Xb = Xb := List.filter_eq_self.2 fun e he => by
  have := (b1 e).1 he
  simp only [List.mem_singleton] at this
  subst this
  refine decide_eq_true fun h9 => ?_
  have := (a1 _).1 h9
  simp [xa, xb, xc] at this
 have o2 : offL Xb Xa = Xa := List.filter_eq_self.2 fun e he => by
  refine decide_eq_true fun h9 => ?_
  have h8 := (b1 e).1 h9
  simp only [List.mem_singleton] at h8
  subst h8
  have := (a1 _).1 he
  simp [xa, xb, xc] at this
 rw [o1, o2, a2, b2] at c1 c2
 have hmem : ∀ e, e ∈ Xa ++ Ya ↔ e ∈ x3 := fun e => by
  constructor
  ·exact fun h => r4.ia.buf.ext.sub e h
  ·intro h
   rcases x3_mem h with rfl|rfl|rfl
   ·exact List.mem_append_left _ ((a1 _).2 (by simp))
   ·exact List.mem_append_left _ ((a1 _).2 (by simp))
   ·exact (r4.same _).2 (List.mem_append_left _ ((b1 _).2 (by simp)))
 have hp1 : (Xa ++ Ya).Perm x3 := (List.perm_ext_iff_of_nodup (extO_nodup r4.ia.buf.ext) (uniq_nodupE x3_uniq)).2 hmem
 have hp2 : (Xb ++ Yb).Perm x3 := (List.perm_ext_iff_of_nodup (extO_nodup r4.ib.buf.ext) (uniq_nodupE x3_uniq)).2 fun e => (r4.same e).symm.trans (hmem e)
 refine ⟨pa, pb, Xa, Xb, a', b', ta1, tb1, a2, b2, ?_, ?_, ?_⟩
 ·have e1 : R = 2 := c1
  have e2 : S = 3 := c2
  rw [e1, e2] at r1
  exact r1
 ·rw [r4.ia.sto.clock, clkE_perm hp1];rfl
 ·rw [r4.ib.sto.state, state_perm hp2];rfl
set_option maxHeartbeats 8000000 in
theorem awake38_p : CallP Tryz.prog 25 [] (bl true) := by
 obtain ⟨pa, pb, Xa, Xb, a', b', hR⟩ := x3_run
 have hc := cn8_p
 have hs := x3_suit
 have hpe := peer_a cn8 2 [0] cn8_ok (by decide) (by rw [cn8_str];rfl) (insS_ld (by simp))
 have f0 := newP_fine (m := cn8) (n := 2) (ld := [0]) (by decide) (by rw [cn8_str];rfl)
 have h1 := fun pb' sp bb mb v vc => take_a pb' sp bb mb cn8 v vc 2 0 (newP cn8 2 [0]) [xa, xc] cn8_ok f0.ok (by decide) (by decide)
 have h2 := fun pb' sp bb mb v vc => take_a pb' sp bb mb cn8 v vc 2 0 (newP cn8 2 [0]) [xb] cn8_ok f0.ok (by decide) (by decide)
 simp only [hR.ta, hR.tb] at h1 h2
 have h3 := fun p1 s1 q1 m1 v1 w1 p2 s2 q2 m2 v2 w2 => recon_a p1 s1 q1 m1 v1 w1 p2 s2 q2 m2 v2 w2 cn8 2 200 pa pb a' b' 10 2 3 cn8_ok hR.rk (by decide) (by decide) (by decide) (by decide) (by decide)
 have hla := hR.la
 have hlb := hR.lb
 have e21 := equal_p [2, 1] [2, 1]
 have e3 := equal_p [3] [3]
 rw [decide_eq_true rfl] at e21 e3
 refine CallA.of pg ord25 Tryz.func25 rfl Tryz.ntmps25 Tryz.results25 rfl fun h0 G0 O0 => ?_
 repeat' (first|refine Sp.h ?_|refine Lk.r rfl ?_|refine Rf.mk rfl ?_|(refine All.mk ?_;intro _)|(apply Fk.r;focus repeat' first|infer_instance|constructor)|refine Rf.mk ⟨rfl, rfl, rfl⟩ ?_|(apply Cl.p (hc);(focus repeat' (first|exact Lend.nil|fail))))
 apply Cl.fx [mdl cn8, it 2, ints [0]]
 focus (repeat' (first|exact FX.nil|(apply FX.sl;(focus repeat constructor);(focus exact Nat.le_of_ble_eq_true rfl))|(apply FX.le;(focus first|exact ALe.refl _|exact ALe.nil))|apply FX.agg|apply FX.tup))
 refine xW (hpe) ?_
 rintro _ _ ⟨p1, s1, q1, m1, v1, w1, rfl, rfl⟩
 repeat' (first|refine Sp.h ?_|refine Lk.r rfl ?_|refine Rf.mk rfl ?_|(refine All.mk ?_;intro _)|(apply Fk.r;focus repeat' first|infer_instance|constructor)|refine Rf.mk ⟨rfl, rfl, rfl⟩ ?_|(apply Cl.p (hc);(focus repeat' (first|exact Lend.nil|fail))))
 apply Cl.fx [mdl cn8, it 2, ints [0]]
 focus (repeat' (first|exact FX.nil|(apply FX.sl;(focus repeat constructor);(focus exact Nat.le_of_ble_eq_true rfl))|(apply FX.le;(focus first|exact ALe.refl _|exact ALe.nil))|apply FX.agg|apply FX.tup))
 refine xW (hpe) ?_
 rintro _ _ ⟨p2, s2, q2, m2, v2, w2, rfl, rfl⟩
 repeat' (first|refine Sp.h ?_|refine Lk.r rfl ?_|refine Rf.mk rfl ?_|refine xB ?_|(refine All.mk ?_;intro _)|(apply Fk.r;focus repeat' first|infer_instance|constructor)|refine Rf.mk ⟨rfl, rfl, rfl⟩ ?_|fail)
 apply Cl.fx [pm p1, evs [xa, xc]]
 focus (repeat' (first|exact FX.nil|(apply FX.sl;(focus repeat constructor);(focus exact Nat.le_of_ble_eq_true rfl))|(apply FX.le;(focus first|exact ALe.refl _|exact ALe.nil))|apply FX.agg|apply FX.tup))
 have h1' := h1 p1 s1 q1 m1 v1 w1
 refine xW (h1') ?_
 rintro _ _ ⟨rfl, v1', rfl⟩
 repeat' (first|refine Sp.h ?_|refine Lk.r rfl ?_|refine Rf.mk rfl ?_|(refine All.mk ?_;intro _)|(apply Fk.r;focus repeat' first|infer_instance|constructor)|refine Rf.mk ⟨rfl, rfl, rfl⟩ ?_|fail)
 apply Cl.fx [pm p2, evs [xb]]
 focus (repeat' (first|exact FX.nil|(apply FX.sl;(focus repeat constructor);(focus exact Nat.le_of_ble_eq_true rfl))|(apply FX.le;(focus first|exact ALe.refl _|exact ALe.nil))|apply FX.agg|apply FX.tup))
 have h2' := h2 p2 s2 q2 m2 v2 w2
 refine xW (h2') ?_
 rintro _ _ ⟨rfl, v2', rfl⟩
 have h3' := h3 p1 s1 q1 m1 v1' w1 p2 s2 q2 m2 v2' w2
 repeat' (first|refine Sp.h ?_|refine Lk.r rfl ?_|refine Rf.mk rfl ?_|fail)
 refine xW (h3') ?_
 rintro _ _ ⟨rfl, v1, v2, rfl⟩
 have g1 := pstore_a p1 s1 q1 m1 cn8 v1 w1 a'
 have g2 := pstore_a p2 s2 q2 m2 cn8 v2 w2 b'
 have g3 := sclock_p s1 cn8 a'.s.base v1 a'.s.now (by rw [hR.ca];decide)
 have g4 := sstate_p s2 cn8 b'.s.base v2 b'.s.now (by rw [hR.sb];decide)
 rw [hR.ca] at g3
 rw [hR.sb] at g4
 repeat' (first|refine Sp.h ?_|refine Lk.r rfl ?_|refine Rf.mk rfl ?_|refine xA ?_|(refine Im.mk ?_;intro _)|fail)
 refine xW (g1) ?_
 rintro _ _ ⟨rfl, rfl⟩
 repeat' (first|refine Sp.h ?_|refine Lk.r rfl ?_|refine Rf.mk rfl ?_|refine xA ?_|fail)
 refine xW (g3) ?_
 rintro _ _ ⟨rfl, rfl⟩
 repeat' (first|refine Sp.h ?_|refine Lk.r rfl ?_|refine Rf.mk rfl ?_|refine xA ?_|(refine All.mk ?_;intro _)|(apply Fk.r;focus repeat' first|infer_instance|constructor)|refine Rf.mk ⟨rfl, rfl, rfl⟩ ?_|fail)
 (apply Cl.lend (e21);(focus repeat' (first|exact Lend.nil|apply Lend.keep|(apply Lend.lendm;(focus repeat constructor);(focus rfl);(focus first|omega|decide|(simp;omega)|exact Nat.le_of_ble_eq_true rfl))|fail)))
 repeat' (first|refine Sp.h ?_|refine Lk.r rfl ?_|refine Rf.mk rfl ?_|refine xA ?_|fail)
 refine xW (g2) ?_
 rintro _ _ ⟨rfl, rfl⟩
 repeat' (first|refine Sp.h ?_|refine Lk.r rfl ?_|refine Rf.mk rfl ?_|fail)
 refine xW (g4) ?_
 rintro _ _ ⟨rfl, rfl⟩
 repeat' (first|refine Sp.h ?_|refine Lk.r rfl ?_|refine Rf.mk rfl ?_|(refine All.mk ?_;intro _)|(apply Fk.r;focus repeat' first|infer_instance|constructor)|refine Rf.mk ⟨rfl, rfl, rfl⟩ ?_|fail)
 (apply Cl.lend (e3);(focus repeat' (first|exact Lend.nil|apply Lend.keep|(apply Lend.lendm;(focus repeat constructor);(focus rfl);(focus first|omega|decide|(simp;omega)|exact Nat.le_of_ble_eq_true rfl))|fail)))
 repeat' (first|refine Sp.h ?_|refine Lk.r rfl ?_|refine xN ?_|fail)
 all_goals exact Fin.p rfl rfl
end Go.Proofs.YtmllihbhphnolaaGreat
namespace Go.Proofs.YtmllihbhphnolaaGreat
open Go Go.CF
set_option maxRecDepth 20000
theorem rnew_p (c : List Int) (h : ValC c) : CallP Tryz.prog 31 [ints c] (.tup [.agg [ints c, nl0], it 0]) := by
 have h1 := validR_p c
 rw [decide_eq_true h] at h1
 have hl := h.2.2
 refine CallA.fx (K := fun r own => ∃ v, r = .tup [.agg [.ow v, nl0], it 0] ∧ own = [arrR v 3 1 c intC]) ?_ (by
  rintro _ _ ⟨v, rfl, rfl⟩
  refine FX.tup (cs' := [.agg [ints c, nl0], it 0]) (FX.agg (cs' := [ints c, nl0]) ?_ (.le (ALe.refl _) .nil)) .nil
  (repeat' (first|exact FX.nil|(apply FX.s1;(focus repeat constructor);(focus first|omega|(simp;done)|(simp;omega)))|apply FX.k)))
 refine CallA.of pg ord31 Tryz.func31 rfl Tryz.ntmps31 Tryz.results31 rfl fun h0 G0 O0 => ?_
 repeat' (first|refine Sp.h ?_|refine Lk.r rfl ?_|refine Rf.mk rfl ?_|refine xA ?_|refine xP ?_|(refine All.mk ?_;intro _)|refine xU ?_|refine xT ?_|refine Ce.l rfl ?_|(apply SetAsk.r;focus repeat' constructor)|(apply Fk.r;focus repeat' first|infer_instance|constructor)|refine xN ?_|refine Rf.mk ⟨rfl, rfl⟩ ?_|refine Rf.mk ⟨rfl, rfl, rfl⟩ ?_|refine Mp.same ?_|(apply Cl.p (h1);(focus repeat' (first|exact Lend.nil|apply Lend.keep|fail))))
 exact ⟨_, [arrR _ 3 1 c intC], .tup (.same (.same (.z))), _, rfl, rfl⟩
abbrev u8 (x : Int) : AV := .val (.int .u8 x)
end Go.Proofs.YtmllihbhphnolaaGreat
namespace Go.Proofs.YtmllihbhphnolaaGreat
open Go Go.CF
set_option maxRecDepth 20000
theorem zero31_o (n : Int) (hn : 1 ≤ n ∧ n ≤ 5) : CallO Tryz.prog 108 [.val (.int .i64 n)] 3 1 (List.replicate n.toNat 0) intC := by
 obtain ⟨m, rfl⟩ : ∃ m : Nat, n = m := ⟨n.toNat, by omega⟩
 refine CallA.of pg ord108 Tryz.func108 rfl Tryz.ntmps108 Tryz.results108 rfl fun h0 G0 O0 => ?_
 repeat' (first|refine Sp.h ?_|refine Lk.r rfl ?_|refine Rf.mk rfl ?_|refine xB ?_|(refine All.mk ?_;intro _)|refine xN ?_|refine Rf.mk ⟨rfl, rfl, rfl⟩ ?_|(apply Jx.r;(focus exact rfl);(focus first|omega|(simp;done)|(simp;omega)))|refine MkS.r intC 0 rfl ?_|fail)
 exact ⟨_, _, .one (.same (.z)), _, rfl, rfl⟩
theorem zero31_p (n : Nat) (hn : 1 ≤ n ∧ n ≤ 5) : CallP Tryz.prog 108 [it (n : Nat)] (ints (List.replicate n 0)) :=
 CallA.fz (by simp;omega) (zero31_o n (by omega))
def nw5O : Nat → Ord × (Nat → Cls) := fun id => bif Nat.beq id 3 then (.one 0 (.one 3 (.alt 1 (.alt 2 (.alt 4 (.one 5 (.one 6 (.one 7 (.one 8 (.one 9 (.one 10 .done)))))) (.alt 5 (.one 4 (.one 6 (.one 7 (.one 8 (.one 9 (.one 10 .done)))))) (.none))) (.alt 5 (.one 2 (.one 4 (.one 6 (.one 7 (.one 8 (.one 9 (.one 10 .done))))))) (.none))) (.alt 2 (.alt 1 (.alt 4 (.one 5 (.one 6 (.one 7 (.one 8 (.one 9 (.one 10 .done)))))) (.alt 5 (.one 4 (.one 6 (.one 7 (.one 8 (.one 9 (.one 10 .done)))))) (.none))) (.alt 5 (.one 1 (.one 4 (.one 6 (.one 7 (.one 8 (.one 9 (.one 10 .done))))))) (.none))) (.alt 5 (.alt 1 (.one 2 (.one 4 (.one 6 (.one 7 (.one 8 (.one 9 (.one 10 .done))))))) (.alt 2 (.one 1 (.one 4 (.one 6 (.one 7 (.one 8 (.one 9 (.one 10 .done))))))) (.none))) (.none))))), clOf [.pure, .ext, .ext, .pure, .loud, .ext, .loud, .pure, .pure, .loud, .pure]) else (.done, clOf [])
theorem rst_bad (m : ModS) (n : Int) (ld : List Int) (hm : MOK m) (h : ¬ GoodN m n ld) : CallP Tryz.prog 37 [mdl m, it n, ints ld] (.tup [.agg [nl0, it 0, nl0, nl0, nl0, nl0, nl0, nl0], it 1]) := by
 have h1 := strict32_p m hm.lay
 have h2 := inside35r_p ld
 have hst := hm.str
 unfold GoodN at h
 by_cases h4 : 1 ≤ n ∧ n ≤ 5
 ·by_cases h5 : (ld.length : Int) = (strF m : Nat)
  ·have h3 : ¬ insS ld := fun h9 => h ⟨h4.1, h4.2, by omega, h9⟩
   rw [decide_eq_false h3] at h2
   refine CallA.of pg ord37 Tryz.func37 rfl Tryz.ntmps37 Tryz.results37 rfl fun h0 G0 O0 => ?_
   repeat' (first|refine Sp.h ?_|refine Lk.r rfl ?_|refine Rf.mk rfl ?_|refine xA ?_|refine xB ?_|(refine Im.mk ?_;intro _)|(refine All.mk ?_;intro _)|refine xT ?_|refine Ch.l ⟨rfl, rfl⟩ ?_|(apply SetAsk.r;focus repeat' constructor)|(apply Fk.r;focus repeat' first|infer_instance|constructor)|refine xN ?_|(apply Cl.p (h1);(focus ((repeat' (first|exact Lend.nil|apply Lend.keep|fail));done)))|(apply Cl.p (h2);(focus ((repeat' (first|exact Lend.nil|apply Lend.keep|fail));done))))
   all_goals exact Fin.p rfl rfl
  ·refine CallA.of pg ord37 Tryz.func37 rfl Tryz.ntmps37 Tryz.results37 rfl fun h0 G0 O0 => ?_
   repeat' (first|refine Sp.h ?_|refine Lk.r rfl ?_|refine Rf.mk rfl ?_|refine xB ?_|(refine Im.mk ?_;intro _)|(refine All.mk ?_;intro _)|refine xT ?_|refine Ch.l ⟨rfl, rfl⟩ ?_|(apply SetAsk.r;focus repeat' constructor)|(apply Fk.r;focus repeat' first|infer_instance|constructor)|refine xN ?_|(apply Cl.p (h1);(focus ((repeat' (first|exact Lend.nil|apply Lend.keep|fail));done)))|(apply Cl.p (h2);(focus ((repeat' (first|exact Lend.nil|apply Lend.keep|fail));done))))
   all_goals exact Fin.p rfl rfl
 ·refine CallA.of pg ord37 Tryz.func37 rfl Tryz.ntmps37 Tryz.results37 rfl fun h0 G0 O0 => ?_
  repeat' (first|refine Sp.h ?_|refine Lk.r rfl ?_|refine Rf.mk rfl ?_|refine xA ?_|refine xB ?_|(refine Bd.mk ?_ ?_ <;> intro _)|(refine All.mk ?_;intro _)|refine xT ?_|(apply SetAsk.r;focus repeat' constructor)|(apply Fk.r;focus repeat' first|infer_instance|constructor)|refine xN ?_|(apply Cl.p (h1);(focus ((repeat' (first|fail));done)))|(apply Cl.p (h2);(focus ((repeat' (first|fail));done))))
  all_goals first
   | exact Fin.p rfl rfl
   | omega
theorem rst_p (m : ModS) (n : Nat) (ld : List Int) (hm : MOK m) (hn : 1 ≤ n ∧ n ≤ 5) (hl : ld.length = strF m) (hs : insS ld) : CallP Tryz.prog 37 [mdl m, it (n : Nat), ints ld] (.tup [.agg (rstC (stN m n ld []) []), it 0]) := by
 have h1 := strict32_p m hm.lay
 have h2 := inside35r_p ld
 have h3 := zero31_p n hn
 have h4 := new34_p m hm.lay
 have hst := hm.str
 have hl' : (ld.length : Int) = (strF m : Nat) := by omega
 rw [decide_eq_true hs] at h2
 obtain ⟨M, hM⟩ : ∃ M, M = List.replicate (mrgF m).length mg0 := ⟨_, rfl⟩
 obtain ⟨Z, hZ⟩ : ∃ Z, Z = List.replicate n (0 : Int) := ⟨_, rfl⟩
 have hb : rstC (stN m n ld []) [] = [ints Z, it 0, ints ld, mgs M, nl0, nl0, ints [], evs []] := by rw [hM, hZ];rfl
 rw [hb]
 rw [← hM] at h4
 rw [← hZ] at h3
 refine CallA.conv (a := .tup [.agg [ints Z, it 0, ints ld, mgs M, nl0, nl0, nl0, nl0], it 0]) (.tup (.cons (.agg (.cons (ALe.refl _) (.cons (ALe.refl _) (.cons (ALe.refl _) (.cons (ALe.refl _) (.cons (ALe.refl _) (.cons (ALe.refl _) (.cons ALe.nil (.cons ALe.nil .nil))))))))) (.cons (ALe.refl _) .nil))) ?_
 refine CallA.fx (K := fun r own => ∃ v, r = .tup [.agg [ints Z, it 0, .ow v, mgs M, nl0, nl0, nl0, nl0], it 0] ∧ own = [arrR v 3 1 ld intC]) ?_ (by
  rintro _ _ ⟨v, rfl, rfl⟩
  refine FX.tup (cs' := [.agg [ints Z, it 0, ints ld, mgs M, nl0, nl0, nl0, nl0], it 0]) (FX.agg (cs' := [ints Z, it 0, ints ld, mgs M, nl0, nl0, nl0, nl0]) ?_ (.le (ALe.refl _) .nil)) .nil
  (repeat' (first|exact FX.nil|(apply FX.s1;(focus repeat constructor);(focus first|omega|(simp;done)|(simp;omega)))|apply FX.k)))
 refine CallA.of pg nw5O Tryz.func37 rfl Tryz.ntmps37 Tryz.results37 rfl fun h0 G0 O0 => ?_
 repeat' (first|refine Sp.h ?_|refine Lk.r rfl ?_|refine Rf.mk rfl ?_|refine xA ?_|refine xB ?_|refine OpK.r rfl ?_|refine xP ?_|(refine Im.mk ?_;intro _)|(refine All.mk ?_;intro _)|refine xU ?_|refine xT ?_|refine Ce.l rfl ?_|refine Ch.l ⟨rfl, rfl⟩ ?_|(apply SetAsk.r;focus repeat' constructor)|(apply Fk.r;focus repeat' first|infer_instance|constructor)|refine xN ?_|refine Rf.mk ⟨rfl, rfl⟩ ?_|refine Rf.mk ⟨rfl, rfl, rfl⟩ ?_|refine Mp.same ?_|refine xD ?_|exact trivial|apply RA'.both|(apply Cl.p (h1);(focus ((repeat' (first|exact Lend.nil|apply Lend.keep|fail));done)))|(apply Cl.p (h2);(focus ((repeat' (first|exact Lend.nil|apply Lend.keep|fail));done)))|(apply Cl.p (h3);(focus ((repeat' (first|exact Lend.nil|apply Lend.keep|fail));done)))|(apply Cl.p (h4);(focus ((repeat' (first|exact Lend.nil|apply Lend.keep|fail));done))))
 all_goals exact ⟨_, [arrR _ 3 1 ld intC], .tup (.same (.same (.z))), _, rfl, rfl⟩
theorem rpeer_p (m : ModS) (n : Nat) (b : NowS) (hm : MOK m) (hr : RefB m n b) (hp : b.places.length ≤ 1000) : CallP Tryz.prog 38 [mdl m, .agg (rstC b [])] (.agg (rpC b [] b.clock [] 0)) := by
 have hal := all35_p m n b [] hm hr (fun x hx => (nomatch hx)) (by simp;omega)
 have h1 := rnew_p b.clock hr.clk
 have hh : hlL [] = [] := List.length_eq_zero_iff.1 (by rw [hl_len];rfl)
 refine CallA.conv (a := .agg [ints b.clock, it b.time, ints b.state, mgs b.merged, nl0, nl0, ints b.places, evs [], ints b.clock, nl0, it 0]) (.agg (.cons (ALe.refl _) (.cons (ALe.refl _) (.cons (ALe.refl _) (.cons (ALe.refl _) (.cons (ALe.refl _) (.cons (ALe.refl _) (.cons (ALe.refl _) (.cons (ALe.refl _) (.cons (ALe.refl _) (.cons (by rw [hh];exact ALe.nil) (.cons (ALe.refl _) .nil)))))))))))) ?_
 refine CallA.of pg ord38 Tryz.func38 rfl Tryz.ntmps38 Tryz.results38 rfl fun h0 G0 O0 => ?_
 repeat' (first|refine Sp.h ?_|refine Lk.r rfl ?_|refine Rf.mk rfl ?_|(refine All.mk ?_;intro _)|refine xT ?_|refine Ch.l ⟨rfl, rfl⟩ ?_|(apply SetAsk.r;focus repeat' constructor)|(apply Fk.r;focus repeat' first|infer_instance|constructor)|refine xN ?_|(apply Cl.p (hal);(focus repeat' (first|exact Lend.nil|apply Lend.keep|fail)))|(apply Cl.p (h1);(focus repeat' (first|exact Lend.nil|apply Lend.keep|fail))))
 all_goals exact Fin.p rfl rfl
end Go.Proofs.YtmllihbhphnolaaGreat
namespace Go.Proofs.YtmllihbhphnolaaGreat
open Go Go.CF
set_option maxRecDepth 20000
abbrev evlC (l : List EvS) : List AV := [evs l]
theorem newP_tki {m : ModS} {n : Nat} {ld : List Int} (h : 1 ≤ n ∧ n ≤ 5) (hs : insS ld) : TkI m n (stN m n ld []) (newP m n ld) :=
 ⟨rfl, rfl, ⟨Nat.le_refl _, fun e he => (nomatch he), hs, List.Pairwise.nil⟩, ⟨valC_zero h, by simp [newP], hldOK_nil n, fun p hp => (nomatch hp)⟩⟩
set_option maxHeartbeats 16000000 in
theorem takes38_p (m : ModS) (rp : Int) (ld : List Int) (l : List EvS) (cut : Int) (hcut : 0 ≤ cut ∧ cut ≤ 255) : CallP Tryz.prog 5 [mdl m, it rp, ints ld, evs l, u8 cut] (bl true) := by
 have haw := awake38_p
 have hfe := few32_c m l
 refine CallA.of pg ord5 Tryz.func5 rfl Tryz.ntmps5 Tryz.results5 rfl fun h0 G0 O0 => ?_
 repeat' (first|refine Sp.h ?_|refine Lk.r rfl ?_|refine Rf.mk rfl ?_|refine xA ?_|(refine All.mk ?_;intro _)|refine xT ?_|refine Ch.l ⟨rfl, rfl⟩ ?_|(apply Cl.p (haw);(focus repeat' (first|exact Lend.nil|fail))))
 rename_i b5
 refine xW (hfe) ?_
 rintro _ _ ⟨z, rfl, rfl, hz⟩
 cases z
 ·repeat' (first|refine Sp.h ?_|refine Lk.r rfl ?_|refine Rf.mk rfl ?_|refine xB ?_|refine xN ?_|fail)
  exact Fin.p rfl rfl
 obtain ⟨hm, hfw⟩ := hz rfl
 by_cases h40 : 40 < l.length
 ·repeat' (first|refine Sp.h ?_|refine Lk.r rfl ?_|refine Rf.mk rfl ?_|refine xA ?_|(refine Im.mk ?_;intro _)|refine xN ?_|fail)
  exact Fin.p rfl rfl
 by_cases h60 : 60 < ld.length
 ·repeat' (first|refine Sp.h ?_|refine Lk.r rfl ?_|refine Rf.mk rfl ?_|refine xA ?_|refine xB ?_|(refine Im.mk ?_;intro _)|refine xN ?_|fail)
  exact Fin.p rfl rfl
 by_cases hg : GoodN m rp ld
 rotate_left
 ·have h1 := peer_bad m rp ld hm hg
  have h2 := rst_bad m rp ld hm hg
  repeat' (first|refine Sp.h ?_|refine Lk.r rfl ?_|refine Rf.mk rfl ?_|refine xA ?_|refine xB ?_|(refine Im.mk ?_;intro _)|(refine All.mk ?_;intro _)|refine xT ?_|refine Ch.l ⟨rfl, rfl⟩ ?_|(apply SetAsk.r;focus repeat' constructor)|refine xN ?_|(apply Cl.p (h1);(focus repeat' (first|exact Lend.nil|apply Lend.keep|fail)))|(apply Cl.p (h2);(focus repeat' (first|exact Lend.nil|apply Lend.keep|fail))))
  all_goals exact Fin.p rfl rfl
 obtain ⟨n, rfl⟩ : ∃ n : Nat, rp = n := ⟨rp.toNat, by have := hg.1;omega⟩
 have hn : 1 ≤ n ∧ n ≤ 5 := by have := hg.1;have := hg.2.1;omega
 obtain ⟨_, _, hl, hi⟩ := hg
 have hpe := peer_a m n ld hm hn hl hi
 have hst := rst_p m n ld hm hn hl hi
 have hfi := (newP_fine (m := m) (ld := ld) hn hl).ok
 have hrb : RefB m n (stN m n ld []) := ⟨hfi.now.clk, hfi.n, hfi.now.st⟩
 have hrp := rpeer_p m n (stN m n ld []) hm hrb (by simp [stN])
 have htk := newP_tki (m := m) (ld := ld) hn hi
 obtain ⟨b, hb⟩ : ∃ b, b = stN m n ld [] := ⟨_, rfl⟩
 obtain ⟨P0, hP0⟩ : ∃ P0, P0 = newP m n ld := ⟨_, rfl⟩
 have hP : rpC b [] b.clock [] 0 = rpP b P0 := by rw [hb, hP0];rfl
 have hbp : b.places = [] := by rw [hb];rfl
 rw [← hb] at hst hrb hrp htk
 rw [← hP0] at hpe hfi htk
 rw [hP] at hrp
 obtain ⟨k, hk⟩ : ∃ k : Nat, cut % ((l.length : Int) + 1) = k := ⟨(cut % ((l.length : Int) + 1)).toNat, by have := Int.emod_nonneg cut (show (l.length : Int) + 1 ≠ 0 by omega);omega⟩
 have hkl : k ≤ l.length := by have := Int.emod_lt_of_pos cut (show 0 < (l.length : Int) + 1 by omega);omega
 repeat' (first|refine Sp.h ?_|refine Lk.r rfl ?_|refine Rf.mk rfl ?_|refine xA ?_|refine xB ?_|(refine Im.mk ?_;intro _)|refine xT ?_|refine Ch.l ⟨rfl, rfl⟩ ?_|fail)
 refine xW (hpe) ?_
 rintro _ _ ⟨pb, sp, bb, mb, v, vc, rfl, rfl⟩
 (repeat' (first|(show CA _ _ (Code.region 13 _ _) _ _;apply Stopped.out)|refine Sp.h ?_|refine Lk.r rfl ?_|refine Rf.mk rfl ?_|refine xA ?_|refine xB ?_|refine xP ?_|(refine Im.mk ?_;intro _)|(refine All.mk ?_;intro _)|refine xT ?_|refine Ch.l ⟨rfl, rfl⟩ ?_|(apply SetAsk.r;focus repeat' constructor)|refine xN ?_|refine xO ?_|(apply Cvk.i64;(focus rfl);(focus omega))|(apply Cl.p (hst);(focus ((repeat' (first|exact Lend.nil|apply Lend.keep|fail));done)))|(apply Cl.p (hrp);(focus ((repeat' (first|exact Lend.nil|apply Lend.keep|fail));done)))));any_goals apply Stopped.mk
 rename_i b12 b14 _
 rw [hk]
 repeat' (first|refine Sp.h ?_|refine Lk.r rfl ?_|refine Rf.mk rfl ?_|refine OpK.r rfl ?_|(refine All.mk ?_;intro _)|refine xU ?_|(apply Fk.r;focus repeat' first|infer_instance|constructor)|refine Rf.mk ⟨rfl, rfl, rfl⟩ ?_|(apply Jx.r;(focus exact rfl);(focus first|omega|(simp;done)|(simp;omega)))|refine xD ?_|fail)
 rename_i w
 have hdk : List.take (l.length - k) (List.drop k l) = l.drop k := List.take_of_length_le (by rw [List.length_drop];exact Nat.le_refl _)
 refine CA.retype (by repeat constructor) [l.take k, l.drop k] evlC (by simp [chunk, hdk];exact ⟨rfl, rfl⟩) ?_
 obtain ⟨parts, hparts⟩ : ∃ parts, parts = [l.take k, l.drop k] := ⟨_, rfl⟩
 have hpl : parts.length = 2 := by rw [hparts];rfl
 have hp40 : ∀ x ∈ parts, x.length ≤ 40 := fun x hx => by
  rw [hparts] at hx
  rcases List.mem_cons.1 hx with rfl|hx
  ·rw [List.length_take];omega
  ·rw [List.mem_singleton.1 hx, List.length_drop];omega
 rw [← hparts]
 refine CA.loop (fun x : Nat × PrS × Value => ⟨[(5, pm b5), (11, pm pb), (14, pm b14), (72, .ow w), (73, it (2 : Nat)), (74, it x.1)], [mR b5 m, blkR b14 84 (rpP b x.2.1), arrR w 31 1 parts evlC] ++ prR pb sp bb mb m x.2.2 vc x.2.1⟩)
  (fun x => x.1 ≤ 2 ∧ PrOK m n (40 * x.1) x.2.1 ∧ TkI m n b x.2.1) (fun x => 2 - x.1) (0, P0, v) xE ⟨Nat.zero_le _, hfi, htk⟩ ?_
 rintro ⟨i, p, v'⟩ ⟨hi2, hok, htp⟩
 simp only at hi2 hok htp
 simp only [List.cons_append, List.nil_append]
 by_cases hin : i < 2
 rotate_left
 ·repeat' (first|refine Sp.h ?_|refine Lk.r rfl ?_|refine Rf.mk rfl ?_|refine xB ?_|refine xN ?_|fail)
  exact Fin.p rfl rfl
 obtain ⟨part, hpt⟩ := get_of (l := parts) (i := i) (by omega)
 have hptl := hp40 part (List.mem_of_getElem? hpt)
 have t1 := take_a pb sp bb mb m v' vc n (40 * i) p part hm hok hn.2 (by omega)
 have t2 := take38_p m n (40 * i) b p part hm hrb htp hok hn.2 (by rw [hbp];simp;omega)
 have k1 := (takeF_ok hok (l := part) (by omega)).mono (B' := 40 * (i + 1)) (by omega)
 have k2 := htp.take hrb (l := part)
 obtain ⟨res, hres⟩ : ∃ res, res = takeF m part p := ⟨_, rfl⟩
 rw [← hres] at t1 t2 k1 k2
 have q1 := same32_p res.2.2 res.2.2
 rw [decide_eq_true rfl] at q1
 have sh := fun v => shows38_a pb sp bb mb m v vc n (40 * (i + 1)) b res.2.1 hm hrb k2 k1 hn.2 (by rw [hbp];simp;omega)
 repeat' (first|refine Sp.h ?_|refine Lk.r rfl ?_|refine Rf.mk rfl ?_|refine xA ?_|refine xU ?_|refine xI ?_|refine xJ ?_|fail)
 refine xW (t1) ?_
 rintro _ _ ⟨rfl, v2, rfl⟩
 have sh' := sh v2
 repeat' (first|refine Sp.h ?_|refine Lk.r rfl ?_|refine Rf.mk rfl ?_|refine xA ?_|(refine All.mk ?_;intro _)|refine xT ?_|refine Ch.l ⟨rfl, rfl⟩ ?_|(apply SetAsk.r;focus repeat' constructor)|refine xN ?_|refine xO ?_|(apply Cl.p (t2);(focus repeat' (first|exact Lend.nil|apply Lend.keep|fail)))|(apply Cl.p (q1);(focus repeat' (first|exact Lend.nil|apply Lend.keep|fail)))|(((apply Cl.use (sh');(focus repeat' (first|exact Lend.nil|apply Lend.keep|fail));(focus (repeat (first|exact Takes.nil|(apply Takes.cons;(focus repeat constructor)))));(focus rfl)));(rintro _ _ ⟨rfl, rfl⟩)))
 all_goals exact PA.lp (i + 1, res.2.1, v2) xE ⟨⟨by simp only;omega, k1, k2⟩, by simp only;omega⟩
end Go.Proofs.YtmllihbhphnolaaGreat
