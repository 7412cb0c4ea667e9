/- Part 13 of the ground of this proof: what its texts say of the model, the program and the plain data; conditions: those that are named. -/
import Derived.Test.YtajenkpjcbaadaaGreatC12
namespace Go.Proofs.YtajenkpjcbaadaaGreat
open Go Go.CF
set_option maxRecDepth 20000
abbrev spA (s : SpS) : AV := .agg (spanC s)
theorem indexS_p {g : FuncId} {caps : List AV} {p : SpS → Bool} (hg : ∀ e, CallP Tryz.prog g (spA e :: caps) (.val (.bool (p e)))) (he : en g = true) (l : List SpS) :
  CallP Tryz.prog 150 [sps l, .fn g caps] (.val (.int .i64 (idxI p l))) := by
 refine CallA.of pg ord150 Tryz.func150 rfl Tryz.ntmps150 Tryz.results150 rfl fun h0 G0 O0 => ?_
 repeat' (first|refine Sp.h ?_|refine Lk.r rfl ?_|refine Rf.mk rfl ?_|refine Im.mk fun _=>?_|fail)
 rename_i hll
 refine CA.loop (fun i : Nat => ⟨[(0, sps l), (1, .fn g caps), (7, .val (.int .i64 l.length)), (8, .val (.int .i64 i))], []⟩)
  (fun i => i ≤ l.length ∧ ∀ j y, j < i → l[j]? = some y → p y = false) (fun i => l.length - i) 0 xE ⟨Nat.zero_le _, fun j y h => by omega⟩ ?_
 rintro i ⟨hi, hj⟩
 by_cases hin : i < l.length
 ·obtain ⟨e, hx⟩ := get_of hin
  repeat' (first|refine Sp.h ?_|refine Lk.r rfl ?_|refine Rf.mk rfl ?_|refine xA ?_|(refine Bd.mk ?_ ?_ <;> intro _)|refine xI ?_|refine Ch.l ⟨rfl, rfl⟩ ?_|refine xN ?_|(apply Rf.mk;(focus assumption))|refine xO ?_|(apply Cl.p (hg e);(focus repeat' (first|apply Lend.keep|fail))))
  ·exact Lend.all _
  ·rename_i hp
   exact Fin.p rfl (by rw [idxI, idxN_of hx hp hj, if_pos hin])
  ·rename_i hp
   refine PA.lp (i + 1) xE ⟨⟨hin, fun j y h1 h2 => ?_⟩, by omega⟩
   by_cases hij : j = i
   ·subst hij;rw [hx] at h2;cases h2;simpa using hp
   ·exact hj j y (by omega) h2
 ·repeat' (first|refine Sp.h ?_|refine Lk.r rfl ?_|refine Rf.mk rfl ?_|refine xB ?_|refine xN ?_|fail)
  exact Fin.p rfl (by rw [idxI, idxN_none (fun x hx => by obtain ⟨j, hx⟩ := List.getElem?_of_mem hx;exact hj j x (by have := (List.getElem?_eq_some_iff.1 hx).1;omega) hx), if_neg (by omega)])
theorem containsS_p {g : FuncId} {caps : List AV} {p : SpS → Bool} (hg : ∀ e, CallP Tryz.prog g (spA e :: caps) (.val (.bool (p e)))) (he : en g = true) (l : List SpS) :
  CallP Tryz.prog 100 [sps l, .fn g caps] (.val (.bool (decide (∃ s ∈ l, p s = true)))) := by
 refine CallA.of pg ord100 Tryz.func100 rfl Tryz.ntmps100 Tryz.results100 rfl fun h0 G0 O0 => ?_
 repeat' (first|refine Sp.h ?_|refine Lk.r rfl ?_|refine Rf.mk rfl ?_|refine xN ?_|(apply Cl.p (indexS_p hg he l);focus repeat' constructor))
 refine Fin.p rfl (vb (decide_eq_decide.2 ?_))
 rw [← idxN_lt]
 unfold idxI
 split <;> omega
def okSp (N : Nat) (s : SpS) : Prop := 0 ≤ s.1 ∧ s.1 < (N : Int) ∧ 1 ≤ s.2.1 ∧ s.2.1 ≤ s.2.2 ∧ s.2.2 ≤ 1024
noncomputable instance (N : Nat) (s : SpS) : Decidable (okSp N s) := Classical.propDecidable _
def inS1 (e : EvS) (s : SpS) : Prop := s.1 = e.rep ∧ s.2.1 ≤ e.num ∧ e.num ≤ s.2.2
noncomputable instance (e : EvS) (s : SpS) : Decidable (inS1 e s) := Classical.propDecidable _
noncomputable def inSp (l : List SpS) (e : EvS) : Bool := decide (∃ s ∈ l, inS1 e s)
noncomputable def serveF (N : Nat) (evl : List EvS) (most : Int) (l : List SpS) : Int × List EvS :=
 @ite _ ((1 ≤ most ∧ most ≤ 1024) ∧ ∀ s ∈ l, okSp N s) (Classical.propDecidable _) (0, (evl.filter (inSp l)).take most.toNat) (1, [])
theorem fewA_p (n : Int) : CallP Tryz.prog 51 [it n] (bl (decide (1 ≤ n ∧ n ≤ 1024))) := by
 refine CallA.of pg ord51 Tryz.func51 rfl Tryz.ntmps51 Tryz.results51 rfl fun h0 G0 O0 => ?_
 repeat' (first|refine Sp.h ?_|refine Lk.r rfl ?_|refine Rf.mk rfl ?_|refine xA ?_|refine xB ?_|(refine Bd.mk ?_ ?_ <;> intro _)|refine xN ?_|fail)
 all_goals refine Fin.p rfl (vb ?_)
 all_goals first
  | exact decide_eq_decide.2 (by omega)
  | exact (decide_eq_false (by omega)).symm
theorem serve1_p (N : Nat) (s : SpS) : CallP Tryz.prog 101 [spA s, .ad [it N] 0] (bl (decide (¬ okSp N s))) := by
 obtain ⟨r, f, t⟩ := s
 refine CallA.of pg ord101 Tryz.func101 rfl Tryz.ntmps101 Tryz.results101 rfl fun h0 G0 O0 => ?_
 repeat' (first|refine Sp.h ?_|refine Lk.r rfl ?_|refine Rf.mk rfl ?_|refine xA ?_|refine xB ?_|(refine Bd.mk ?_ ?_ <;> intro _)|refine All.mk fun _=>?_|refine xT ?_|refine xN ?_|fail)
 all_goals refine Fin.p rfl (vb ?_)
 all_goals first
  | exact decide_eq_decide.2 ⟨fun h => by unfold okSp;(try simp only at *);omega, fun h => by unfold okSp at h;(try simp only at *);omega⟩
  | exact (decide_eq_false fun h => by unfold okSp at h;(try simp only at *);omega).symm
  | exact (decide_eq_true (by unfold okSp;(try simp only at *);omega)).symm
theorem serve21_p (e : EvS) (s : SpS) : CallP Tryz.prog 103 [spA s, .ad (evC e) 0] (bl (decide (inS1 e s))) := by
 obtain ⟨r, f, t⟩ := s
 refine CallA.of pg ord103 Tryz.func103 rfl Tryz.ntmps103 Tryz.results103 rfl fun h0 G0 O0 => ?_
 repeat' (first|refine Sp.h ?_|refine Lk.r rfl ?_|refine Rf.mk rfl ?_|refine xA ?_|refine xB ?_|(refine Bd.mk ?_ ?_ <;> intro _)|refine All.mk fun _=>?_|refine xT ?_|refine xN ?_|fail)
 all_goals refine Fin.p rfl (vb ?_)
 all_goals first
  | exact decide_eq_decide.2 ⟨fun h => by unfold inS1;(try simp only at *);omega, fun h => by unfold inS1 at h;(try simp only at *);omega⟩
  | exact (decide_eq_false fun h => by unfold inS1 at h;(try simp only at *);omega).symm
theorem serve2_p (e : EvS) (l : List SpS) : CallP Tryz.prog 102 [evA' e, .ad [sps l] 0] (bl (inSp l e)) := by
 have h1 : ∀ s, CallP Tryz.prog 103 (spA s :: [.ad (evC e) 0]) (bl (decide (inS1 e s))) := serve21_p e
 have h2 := containsS_p h1 rfl l
 refine CallA.of pg ord102 Tryz.func102 rfl Tryz.ntmps102 Tryz.results102 rfl fun h0 G0 O0 => ?_
 (repeat' (first|(show CA _ _ (Code.region 1 _ _) _ _;apply Stopped.out)|refine Sp.h ?_|refine Lk.r rfl ?_|refine Rf.mk rfl ?_|refine All.mk fun _=>?_|fail));any_goals apply Stopped.mk
 rename_i b2
 apply CA.freezeB 2
 focus rfl
 focus (repeat constructor)
 repeat' (first|refine Sp.h ?_|refine Lk.r rfl ?_|refine Rf.mk rfl ?_|refine xN ?_|(apply Cl.p (h2);focus repeat' constructor))
 refine Fin.p rfl (vb ?_)
 simp only [inSp, decide_eq_true_eq]
theorem serve_bad (N : Nat) (evl : List EvS) (most : Int) (l : List SpS) (h : ¬ ((1 ≤ most ∧ most ≤ 1024) ∧ ∀ s ∈ l, okSp N s)) : serveF N evl most l = (1, []) := if_neg h
theorem serve_ok (N : Nat) (evl : List EvS) (most : Int) (l : List SpS) (h : (1 ≤ most ∧ most ≤ 1024) ∧ ∀ s ∈ l, okSp N s) : serveF N evl most l = (0, (evl.filter (inSp l)).take most.toNat) := if_pos h
theorem take_step {p : EvS → Bool} {l : List EvS} {i k : Nat} {e : EvS} (he : l[i]? = some e) : ((l.take (i + 1)).filter p).take k = if p e = true ∧ (((l.take i).filter p).take k).length < k then ((l.take i).filter p).take k ++ [e] else ((l.take i).filter p).take k := by
 rw [List.take_add_one, he, Option.toList_some, List.filter_append]
 by_cases hp : p e = true
 ·rw [show [e].filter p = [e] by simp [hp], List.take_append]
  simp only [hp, true_and, List.length_take]
  by_cases hk : ((l.take i).filter p).length < k
  ·rw [if_pos (by omega), List.take_of_length_le (l := [e]) (by simp;omega)]
  ·rw [if_neg (by omega), show k - ((l.take i).filter p).length = 0 by omega];simp
 ·rw [if_neg (fun h => hp h.1), show [e].filter p = [] by simp [hp], List.append_nil]
set_option maxHeartbeats 8000000 in
theorem serve_a (pb sp bb mb : Nat) (m : ModS) (v vc : Value) (N B : Nat) (p : PrS) (most : Int) (l : List SpS) (h : PrOK m N B p) (hB : B ≤ 90000) (hN : N ≤ 5) (hev : ∀ e ∈ p.s.evs, e.past.length ≤ 1000000) :
  CallA Tryz.prog 54 [pm pb, it most, sps l] (prR pb sp bb mb m v vc p) fun r own => r = .tup [evs (serveF N p.s.evs most l).2, it (serveF N p.s.evs most l).1] ∧ own = prR pb sp bb mb m v vc p := by
 have hsz := h.sz
 have hn := h.n
 subst hn
 obtain ⟨c, hc⟩ : ∃ c, c = p.s.now.clock := ⟨_, rfl⟩
 have hck := sclock_p sp m p.s.base v p.s.now (by omega)
 have hfw := fewA_p most
 have hc1 := containsS_p (caps := [.ad [it (p.s.now.clock.length : Nat)] 0]) (serve1_p p.s.now.clock.length) rfl l
 by_cases hok : (1 ≤ most ∧ most ≤ 1024) ∧ ∀ s ∈ l, okSp p.s.now.clock.length s
 rotate_left
 ·rw [serve_bad _ _ most l hok]
  refine CallA.fxr (K := fun r own => r = .tup [nl0, it 1] ∧ own = prR pb sp bb mb m v vc p) ?_ (by rintro _ _ ⟨rfl, rfl⟩;exact ⟨_, _, .tup (.kn (.k .nil)) .nil, rfl, rfl⟩)
  by_cases hmo : 1 ≤ most ∧ most ≤ 1024
  ·rw [decide_eq_true hmo] at hfw
   rw [decide_eq_true (by
    refine Classical.byContradiction fun h9 => hok ⟨hmo, fun s hs => Classical.byContradiction fun h8 => h9 ⟨s, hs, decide_eq_true h8⟩⟩)] at hc1
   refine CallA.of pg ord54 Tryz.func54 rfl Tryz.ntmps54 Tryz.results54 rfl fun h0 G0 O0 => ?_
   repeat' (first|refine Sp.h ?_|refine Lk.r rfl ?_|refine Rf.mk rfl ?_|refine All.mk fun _=>?_|refine xT ?_|fail)
   refine xW (hck) ?_
   rintro _ _ ⟨rfl, rfl⟩
   (repeat' (first|(show CA _ _ (Code.region 2 _ _) _ _;apply Stopped.out)|refine Sp.h ?_|refine Lk.r rfl ?_|refine Rf.mk rfl ?_|refine Im.mk fun _=>?_|refine All.mk fun _=>?_|refine xT ?_|refine xV ?_|refine xN ?_|fail));any_goals apply Stopped.mk
   apply CA.freezeB 5
   focus rfl
   focus (repeat constructor)
   apply CA.freezeB 8
   focus rfl
   focus (repeat constructor)
   repeat' (first|refine Sp.h ?_|refine Lk.r rfl ?_|refine Rf.mk rfl ?_|refine xA ?_|refine xN ?_|(apply Cl.p (hfw);focus (repeat' constructor);done)|(apply Cl.p (hc1);focus (repeat' constructor);done))
   exact ⟨_, prR pb sp bb mb m v vc p, .tup (.same (.same (.z))), rfl, rfl⟩
  ·rw [decide_eq_false hmo] at hfw
   refine CallA.of pg ord54 Tryz.func54 rfl Tryz.ntmps54 Tryz.results54 rfl fun h0 G0 O0 => ?_
   repeat' (first|refine Sp.h ?_|refine Lk.r rfl ?_|refine Rf.mk rfl ?_|refine All.mk fun _=>?_|refine xT ?_|fail)
   refine xW (hck) ?_
   rintro _ _ ⟨rfl, rfl⟩
   (repeat' (first|(show CA _ _ (Code.region 2 _ _) _ _;apply Stopped.out)|refine Sp.h ?_|refine Lk.r rfl ?_|refine Rf.mk rfl ?_|refine Im.mk fun _=>?_|refine All.mk fun _=>?_|refine xT ?_|refine xV ?_|refine xN ?_|fail));any_goals apply Stopped.mk
   apply CA.freezeB 5
   focus rfl
   focus (repeat constructor)
   apply CA.freezeB 8
   focus rfl
   focus (repeat constructor)
   repeat' (first|refine Sp.h ?_|refine Lk.r rfl ?_|refine Rf.mk rfl ?_|refine xB ?_|refine xN ?_|(apply Cl.p (hfw);focus (repeat' constructor);done)|(apply Cl.p (hc1);focus (repeat' constructor);done))
   exact ⟨_, prR pb sp bb mb m v vc p, .tup (.same (.same (.z))), rfl, rfl⟩
 rw [serve_ok _ _ most l hok]
 obtain ⟨hmo, hall⟩ := hok
 rw [decide_eq_true hmo] at hfw
 rw [decide_eq_false (by rintro ⟨s, hs, h9⟩;exact of_decide_eq_true h9 (hall s hs))] at hc1
 obtain ⟨k, rfl⟩ : ∃ k : Nat, most = k := ⟨most.toNat, by omega⟩
 rw [Int.toNat_natCast]
 have hse := sevents_p sp m p.s.base v p.s.now p.s.evs (by omega) hev
 have hEl : p.s.evs.length ≤ 90000 := by omega
 have htl : ∀ i, (((p.s.evs.take i).filter (inSp l)).take k).length ≤ 1024 := fun i => by rw [List.length_take];omega
 have hw : ∀ e, CallP Tryz.prog 102 [evA' e, .ad [sps l] 0] (bl (inSp l e)) := fun e => serve2_p e l
 refine CallA.fxr (K := fun r own => ∃ u, r = .tup [.ow u, it 0] ∧ own = arrR u 40 13 ((p.s.evs.filter (inSp l)).take k) evC :: prR pb sp bb mb m v vc p) ?_ (by rintro _ _ ⟨u, rfl, rfl⟩;exact ⟨_, _, .tup (.s1 .here (by rw [List.length_take];omega) (.k .nil)) .nil, rfl, rfl⟩)
 refine CallA.of pg ord54 Tryz.func54 rfl Tryz.ntmps54 Tryz.results54 rfl fun h0 G0 O0 => ?_
 repeat' (first|refine Sp.h ?_|refine Lk.r rfl ?_|refine Rf.mk rfl ?_|refine All.mk fun _=>?_|refine xT ?_|fail)
 refine xW (hck) ?_
 rintro _ _ ⟨rfl, rfl⟩
 (repeat' (first|(show CA _ _ (Code.region 2 _ _) _ _;apply Stopped.out)|refine Sp.h ?_|refine Lk.r rfl ?_|refine Rf.mk rfl ?_|refine Im.mk fun _=>?_|refine All.mk fun _=>?_|refine xT ?_|refine xV ?_|refine xN ?_|fail));any_goals apply Stopped.mk
 apply CA.freezeB 5
 focus rfl
 focus (repeat constructor)
 apply CA.freezeB 8
 focus rfl
 focus (repeat constructor)
 repeat' (first|refine Sp.h ?_|refine Lk.r rfl ?_|refine Rf.mk rfl ?_|refine xA ?_|refine xT ?_|(apply Cl.p (hfw);focus (repeat' constructor);done)|(apply Cl.p (hc1);focus (repeat' constructor);done))
 refine xW (hse) ?_
 rintro _ _ ⟨rfl, rfl⟩
 repeat' (first|refine Sp.h ?_|refine Lk.r rfl ?_|refine Im.mk fun _=>?_|fail)
 refine CA.nilOwn 10 40 13 evC rfl fun u0 => ?_
 refine CA.loop (fun x : Nat × Value => ⟨[(1, it k), (9, .fn 102 [.ad [sps l] 0]), (10, .ow x.2), (32, evs p.s.evs), (33, it (p.s.evs.length : Nat)), (34, it x.1)], arrR x.2 40 13 (((p.s.evs.take x.1).filter (inSp l)).take k) evC :: prR pb sp bb mb m v vc p⟩)
  (fun x => x.1 ≤ p.s.evs.length) (fun x => p.s.evs.length - x.1) (0, u0) ⟨by (repeat first|exact trivial|refine ⟨rfl, ?_⟩), by simp only [List.take_zero, List.filter_nil, List.take_nil];(repeat first|exact .nil|refine .cons (by repeat constructor) ?_)⟩ (Nat.zero_le _) ?_
 rintro ⟨i, u⟩ hi
 simp only at hi
 simp only
 by_cases hin : i < p.s.evs.length
 ·obtain ⟨e, he⟩ := get_of hin
  have hts := take_step (p := inSp l) (k := k) he
  have hwe := hw e
  have hti := htl i
  cases hp : inSp l e with
  | false =>
   have h9 : ((p.s.evs.take (i + 1)).filter (inSp l)).take k = ((p.s.evs.take i).filter (inSp l)).take k := by rw [hts, if_neg (fun h9 => by rw [hp] at h9;cases h9.1)]
   rw [hp] at hwe
   repeat' (first|refine Sp.h ?_|refine Lk.r rfl ?_|refine Rf.mk rfl ?_|refine xA ?_|refine All.mk fun _=>?_|refine xT ?_|refine xI ?_|refine Ch.l ⟨rfl, rfl⟩ ?_|(apply SetAsk.r;focus repeat' constructor)|refine xN ?_|refine xO ?_|(apply Cl.p (hwe);focus repeat' constructor))
   all_goals exact PA.lp (i + 1, _) ⟨by (repeat first|exact trivial|refine ⟨rfl, ?_⟩), by simp only [h9];(repeat first|exact .nil|refine .cons (by repeat constructor) ?_)⟩ ⟨hin, by simp only;omega⟩
  | true =>
   rw [hp] at hwe
   by_cases hk : (((p.s.evs.take i).filter (inSp l)).take k).length < k
   ·have h9 : ((p.s.evs.take (i + 1)).filter (inSp l)).take k = ((p.s.evs.take i).filter (inSp l)).take k ++ [e] := by rw [hts, if_pos ⟨hp, hk⟩]
    repeat' (first|refine Sp.h ?_|refine Lk.r rfl ?_|refine Rf.mk rfl ?_|refine xA ?_|refine xP ?_|refine All.mk fun _=>?_|refine xU ?_|refine xT ?_|refine xI ?_|refine Ce.r ?_|refine Ch.l ⟨rfl, rfl⟩ ?_|(apply SetAsk.r;focus repeat' constructor)|(apply Fk.r;focus repeat' first|infer_instance|constructor)|refine xN ?_|refine Rf.mk ⟨rfl, rfl⟩ ?_|refine Rf.mk ⟨rfl, rfl, rfl⟩ ?_|(apply Mp.lit;(focus repeat (first|exact MpL.nil|(apply MpL.cons;(focus rfl))|(apply MpL.inv;(focus repeat constructor);(focus infer_instance)))))|refine xO ?_|(apply Cl.p (hwe);focus repeat' constructor))
    all_goals exact PA.lp (i + 1, _) ⟨by (repeat first|exact trivial|refine ⟨rfl, ?_⟩), by simp only [h9];(repeat first|exact .nil|refine .cons (by repeat constructor) ?_)⟩ ⟨hin, by simp only;omega⟩
   ·have h9 : ((p.s.evs.take (i + 1)).filter (inSp l)).take k = ((p.s.evs.take i).filter (inSp l)).take k := by rw [hts, if_neg (fun h9 => hk h9.2)]
    repeat' (first|refine Sp.h ?_|refine Lk.r rfl ?_|refine Rf.mk rfl ?_|refine xA ?_|refine xB ?_|refine All.mk fun _=>?_|refine xU ?_|refine xT ?_|refine xI ?_|refine Ch.l ⟨rfl, rfl⟩ ?_|(apply SetAsk.r;focus repeat' constructor)|refine xN ?_|refine xO ?_|(apply Cl.p (hwe);focus repeat' constructor))
    all_goals exact PA.lp (i + 1, _) ⟨by (repeat first|exact trivial|refine ⟨rfl, ?_⟩), by simp only [h9];(repeat first|exact .nil|refine .cons (by repeat constructor) ?_)⟩ ⟨hin, by simp only;omega⟩
 ·have hie : i = p.s.evs.length := by omega
  subst hie
  rw [List.take_length]
  repeat' (first|refine Sp.h ?_|refine Lk.r rfl ?_|refine Rf.mk rfl ?_|refine xB ?_|refine xN ?_|fail)
  exact ⟨_, arrR u 40 13 ((p.s.evs.filter (inSp l)).take k) evC :: prR pb sp bb mb m v vc p, .tup (.same (.same (.z))), _, rfl, rfl⟩
end Go.Proofs.YtajenkpjcbaadaaGreat
namespace Go.Proofs.YtajenkpjcbaadaaGreat
open Go Go.CF
set_option maxRecDepth 20000
structure Fine (m : ModS) (N B : Nat) (p : PrS) : Prop where
 ok : PrOK m N B p
 ev : ∀ e ∈ p.s.evs, e.past.length ≤ 1000000
noncomputable def sndL (N : Nat) (most : Int) (a b : PrS) : List EvS := (serveF N a.s.evs most (wantsF b.s.now.clock b.H a.s.now.clock).2).2
noncomputable def sndF (m : ModS) (N : Nat) (most : Int) (a b : PrS) : Int × PrS := ((takeF m (sndL N most a b) b).1, (takeF m (sndL N most a b) b).2.1)
theorem sndL_len (N : Nat) (most : Int) (a b : PrS) : (sndL N most a b).length ≤ 1024 := by
 unfold sndL serveF
 split
 ·rename_i h
  simp only [List.length_take]
  omega
 ·simp
set_option maxHeartbeats 4000000 in
theorem send_a (pa sa ba ma : Nat) (va wa : Value) (pb sb bb mb : Nat) (vb wb : Value) (m : ModS) (N B : Nat) (a b : PrS) (most : Int) (hm : MOK m) (ha : Fine m N B a) (hb : Fine m N B b) (hB : B ≤ 80000) (hN : N ≤ 5) :
  CallA Tryz.prog 52 [pm pa, pm pb, .ad [it most] 0] (prR pa sa ba ma m va wa a ++ prR pb sb bb mb m vb wb b) fun r own => r = .tup [it ((sndL N most a b).length : Nat), it (sndF m N most a b).1] ∧ ∃ v', own = prR pa sa ba ma m va wa a ++ prR pb sb bb mb m v' wb (sndF m N most a b).2 := by
 have h1 := sclock_p sa m a.s.base va a.s.now (by have := ha.ok.n;omega)
 have h2 := wants_a pb sb bb mb m vb wb N B b a.s.now.clock hb.ok
 have h3 := serve_a pa sa ba ma m va wa N B a most (wantsF b.s.now.clock b.H a.s.now.clock).2 ha.ok (by omega) hN ha.ev
 have hl := sndL_len N most a b
 have h4 := take_a pb sb bb mb m vb wb N B b (sndL N most a b) hm hb.ok hN (by omega)
 unfold sndF
 change CallA _ _ _ _ fun r own => r = .tup [evs (sndL N most a b), _] ∧ _ at h3
 refine CallA.of pg ord52 Tryz.func52 rfl Tryz.ntmps52 Tryz.results52 rfl fun h0 G0 O0 => ?_
 repeat' (first|refine Sp.h ?_|refine Lk.r rfl ?_|refine Rf.mk rfl ?_|refine xT ?_|fail)
 refine xW (h1) ?_
 rintro _ _ ⟨rfl, rfl⟩
 repeat' (first|refine Sp.h ?_|refine Lk.r rfl ?_|refine Rf.mk rfl ?_|fail)
 refine xW (h2) ?_
 rintro _ _ ⟨rfl, rfl⟩
 repeat' (first|refine Sp.h ?_|refine Lk.r rfl ?_|refine Rf.mk rfl ?_|fail)
 refine xW (h3) ?_
 rintro _ _ ⟨rfl, rfl⟩
 repeat' (first|refine Sp.h ?_|refine Lk.r rfl ?_|refine Rf.mk rfl ?_|fail)
 refine xW (h4) ?_
 rintro _ _ ⟨rfl, v', rfl⟩
 repeat' (first|refine Sp.h ?_|refine Lk.r rfl ?_|refine Rf.mk rfl ?_|refine Im.mk fun _=>?_|refine xN ?_|fail)
 exact ⟨_, prR pa sa ba ma m va wa a ++ prR pb sb bb mb m v' wb (takeF m (sndL N most a b) b).2.1, .tup (.same (.same (.z))), rfl, v', rfl⟩
inductive RecK (m : ModS) (N B : Nat) (most : Int) : PrS → PrS → Nat → Nat → PrS → PrS → Prop
 | last {a b : PrS} : Fine m N B a → Fine m N B b → Fine m N B (sndF m N most a b).2 → (sndF m N most a b).1 = 0 → (sndF m N most (sndF m N most a b).2 a).1 = 0 → sndL N most a b = [] → sndL N most (sndF m N most a b).2 a = [] →
   RecK m N B most a b 1 0 (sndF m N most (sndF m N most a b).2 a).2 (sndF m N most a b).2
 | step {a b a' b' : PrS} {r s : Nat} : Fine m N B a → Fine m N B b → Fine m N B (sndF m N most a b).2 → (sndF m N most a b).1 = 0 → (sndF m N most (sndF m N most a b).2 a).1 = 0 →
   0 < (sndL N most a b).length + (sndL N most (sndF m N most a b).2 a).length → RecK m N B most (sndF m N most (sndF m N most a b).2 a).2 (sndF m N most a b).2 r s a' b' →
   RecK m N B most a b (r + 1) ((sndL N most a b).length + (sndL N most (sndF m N most a b).2 a).length + s) a' b'
theorem RecK.fine {m : ModS} {N B : Nat} {most : Int} {a b a' b' : PrS} {r s : Nat} (h : RecK m N B most a b r s a' b') : Fine m N B a ∧ Fine m N B b := by
 cases h <;> exact ⟨by assumption, by assumption⟩
def recO : Nat → Ord × (Nat → Cls) := fun id => bif Nat.beq id 1 then (.one 0 (.one 1 (.one 2 (.one 3 (.one 4 (.one 5 (.one 6 (.one 7 (.one 10 (.one 11 (.one 12 (.alt 8 (.one 9 (.one 13 (.one 14 (.one 15 (.one 16 (.one 17 .done)))))) (.alt 13 (.one 8 (.one 9 (.one 14 (.one 15 (.one 16 (.one 17 .done)))))) (.none))))))))))))), clOf [.read, .loud, .pure, .pure, .pure, .pure, .pure, .read, .loud, .pure, .pure, .pure, .pure, .ext, .loud, .pure, .pure, .pure]) else (.done, clOf [])
abbrev prR2 (pa sa ba ma : Nat) (va wa : Value) (pb sb bb mb : Nat) (vb wb : Value) (m : ModS) (a b : PrS) : List Res := prR pa sa ba ma m va wa a ++ prR pb sb bb mb m vb wb b
set_option maxHeartbeats 8000000 in
theorem recon_a (pa sa ba ma : Nat) (va wa : Value) (pb sb bb mb : Nat) (vb wb : Value) (m : ModS) (N B : Nat) (a b a' b' : PrS) (most : Int) (R S : Nat) (hm : MOK m) (h : RecK m N B most a b R S a' b') (hB : B ≤ 80000) (hN : N ≤ 5) (hmo : 1 ≤ most ∧ most ≤ 1024) (hR : R ≤ 100000) (hS : S ≤ 1000000000) :
  CallA Tryz.prog 14 [pm pa, pm pb, it most] (prR2 pa sa ba ma va wa pb sb bb mb vb wb m a b) fun r own => r = .tup [it R, it S, it 0] ∧ ∃ va' vb', own = prR2 pa sa ba ma va' wa pb sb bb mb vb' wb m a' b' := by
 have hfa := h.fine.1.ok.n
 have hfb := h.fine.2.ok.n
 have h1 := sclock_p sa m a.s.base va a.s.now (by omega)
 have h2 := sclock_p sb m b.s.base vb b.s.now (by omega)
 have h3 := fewA_p most
 rw [decide_eq_true hmo] at h3
 have heq : (a.s.now.clock.length : Int) = (b.s.now.clock.length : Int) := by omega
 refine CallA.of pg recO Tryz.func14 rfl Tryz.ntmps14 Tryz.results14 rfl fun h0 G0 O0 => ?_
 (repeat' (first|(show CA _ _ (Code.region 1 _ _) _ _;apply Stopped.out)|refine Sp.h ?_|refine Lk.r rfl ?_|refine Rf.mk rfl ?_|refine All.mk fun _=>?_|fail));any_goals apply Stopped.mk
 rename_i b5
 refine CA.cut (fun _ : Unit => ⟨[(0, pm pa), (1, pm pb), (5, pm b5), (32, .val (.bool (decide ¬ (a.s.now.clock.length : Int) = (b.s.now.clock.length : Int))))], blkR b5 3 [it most] :: prR2 pa sa ba ma va wa pb sb bb mb vb wb m a b⟩) (fun _ => True) ?_ ?_
 ·repeat' (first|refine Sp.h ?_|refine Lk.r rfl ?_|refine Rf.mk rfl ?_|refine xA ?_|refine OpK.r rfl ?_|refine xT ?_|refine xD ?_|exact trivial|apply RA'.both|(apply Cl.p (h3);focus (repeat' constructor);done)|(apply Cl.p (h3);focus (repeat' constructor);done))
  all_goals refine xW (h1) ?_
  all_goals rintro _ _ ⟨rfl, rfl⟩
  all_goals repeat' (first|refine Sp.h ?_|refine Lk.r rfl ?_|refine Rf.mk rfl ?_|refine xA ?_|refine OpK.r rfl ?_|refine Im.mk fun _=>?_|refine xT ?_|fail)
  all_goals refine xW (h2) ?_
  all_goals rintro _ _ ⟨rfl, rfl⟩
  all_goals repeat' (first|refine Sp.h ?_|refine Lk.r rfl ?_|refine xA ?_|refine OpK.r rfl ?_|refine Im.mk fun _=>?_|fail)
  all_goals exact PA.lp () xE trivial
 rintro - -
 (repeat' (first|(show CA _ _ (Code.region 3 _ _) _ _;apply Stopped.out)|refine Sp.h ?_|refine Lk.r rfl ?_|refine xA ?_|fail));any_goals apply Stopped.mk
 apply CA.freezeB 5
 focus rfl
 focus (repeat constructor)
 repeat' (first|refine Sp.h ?_|refine Lk.r rfl ?_|refine Rf.mk rfl ?_|fail)
 refine CA.loop (fun x : Nat × Nat × Nat × PrS × PrS × Value × Value => ⟨[(0, pm pa), (1, pm pb), (9, .fn 52 [.ad [it most] 0]), (10, it x.2.1), (11, it x.2.2.1)], prR2 pa sa ba ma x.2.2.2.2.2.1 wa pb sb bb mb x.2.2.2.2.2.2 wb m x.2.2.2.1 x.2.2.2.2.1⟩)
  (fun x => x.2.1 + x.1 = R ∧ ∃ s', x.2.2.1 + s' = S ∧ RecK m N B most x.2.2.2.1 x.2.2.2.2.1 x.1 s' a' b') (fun x => x.1) (R, 0, 0, a, b, va, vb) xE ⟨by simp, S, by simp, h⟩ ?_
 rintro ⟨k, rd, sd, a0, b0, va0, vb0⟩ ⟨hk, s', hs, hrec⟩
 simp only at hk hs hrec
 simp only
 have hfin := hrec.fine
 have hs1 := send_a pa sa ba ma va0 wa pb sb bb mb vb0 wb m N B a0 b0 most hm hfin.1 hfin.2 hB hN
 obtain ⟨b1, hb1⟩ : ∃ b1, b1 = (sndF m N most a0 b0).2 := ⟨_, rfl⟩
 have hc : Fine m N B b1 ∧ (sndF m N most a0 b0).1 = 0 ∧ (sndF m N most b1 a0).1 = 0 := by
  rw [hb1]
  cases hrec <;> exact ⟨by assumption, by assumption, by assumption⟩
 obtain ⟨c1, c2, c3⟩ := hc
 have hs2 := fun vb1 => send_a pb sb bb mb vb1 wb pa sa ba ma va0 wa m N B b1 a0 most hm c1 hfin.1 hB hN
 simp only [c2, c3, ← hb1] at hs1 hs2
 obtain ⟨n1, hn1⟩ : ∃ n1, n1 = (sndL N most a0 b0).length := ⟨_, rfl⟩
 obtain ⟨n2, hn2⟩ : ∃ n2, n2 = (sndL N most b1 a0).length := ⟨_, rfl⟩
 have hl1 := sndL_len N most a0 b0
 have hl2 := sndL_len N most b1 a0
 simp only [← hn1, ← hn2] at hs1 hs2 hl1 hl2
 repeat' (first|refine Sp.h ?_|refine Lk.r rfl ?_|refine Rf.mk rfl ?_|refine xO ?_|fail)
 refine xW (hs1) ?_
 rintro _ _ ⟨rfl, vb1, rfl⟩
 repeat' (first|refine Sp.h ?_|refine Lk.r rfl ?_|refine Rf.mk rfl ?_|refine xA ?_|fail)
 have hs2' := hs2 vb1
 refine xW (hs2') ?_
 rintro _ _ ⟨rfl, va1, rfl⟩
 by_cases hz : n1 + n2 = 0
 ·have hz' : (n1 : Int) + (n2 : Int) = 0 := by omega
  obtain ⟨e1, e2, e3, e4⟩ : k = 1 ∧ s' = 0 ∧ a' = (sndF m N most b1 a0).2 ∧ b' = b1 := by
   cases hrec with
   | last => exact ⟨rfl, rfl, by rw [hb1], by rw [hb1]⟩
   | step _ _ _ _ _ h9 _ => rw [← hb1, ← hn1, ← hn2] at h9;omega
  subst e1;subst e2;subst e3;subst e4
  have hz1 : n1 = 0 := by omega
  have hz2 : n2 = 0 := by omega
  subst hz1;subst hz2
  have hRS : (rd : Int) + 1 = (R : Int) ∧ (sd : Int) + (((0 : Nat) : Int) + ((0 : Nat) : Int)) = (S : Int) := by omega
  obtain ⟨hR1, hS1⟩ := hRS
  repeat' (first|refine Sp.h ?_|refine Lk.r rfl ?_|refine Rf.mk rfl ?_|refine xA ?_|refine xN ?_|refine xO ?_|fail)
  rw [hR1, hS1]
  exact ⟨_, prR2 pa sa ba ma va1 wa pb sb bb mb vb1 wb m _ b', .tup (.same (.same (.same (.z)))), rfl, va1, vb1, rfl⟩
 ·have hz' : ¬ (n1 : Int) + (n2 : Int) = 0 := by omega
  obtain ⟨k', s'', e1, e2, e3⟩ : ∃ k' s'', k = k' + 1 ∧ s' = n1 + n2 + s'' ∧ RecK m N B most (sndF m N most b1 a0).2 b1 k' s'' a' b' := by
   cases hrec with
   | last _ _ _ _ _ h8 h9 => rw [← hb1] at h9;rw [h8] at hn1;rw [h9] at hn2;simp only [List.length_nil] at hn1 hn2;omega
   | step _ _ _ _ _ _ h9 => exact ⟨_, _, rfl, by rw [hn1, hn2, hb1], by rw [hb1];rw [← hb1] at h9 ⊢;exact h9⟩
  repeat' (first|refine Sp.h ?_|refine Lk.r rfl ?_|refine Rf.mk rfl ?_|refine xA ?_|refine xB ?_|refine xO ?_|fail)
  refine PA.lp (k', rd + 1, sd + (n1 + n2), (sndF m N most b1 a0).2, b1, va1, vb1) xE ⟨⟨by simp only;omega, s'', by simp only;omega, e3⟩, by simp only;omega⟩
end Go.Proofs.YtajenkpjcbaadaaGreat
namespace Go.Proofs.YtajenkpjcbaadaaGreat
open Go Go.CF
set_option maxRecDepth 20000
section
variable (pb sp bb mb : Nat) (m : ModS) (v vc : Value) (p : PrS)
theorem pstore_a : CallA Tryz.prog 19 [pm pb] (prR pb sp bb mb m v vc p) fun r own => r = pm sp ∧ own = prR pb sp bb mb m v vc p := by
 refine CallA.of pg ord19 Tryz.func19 rfl Tryz.ntmps19 Tryz.results19 rfl fun h0 G0 O0 => ?_
 repeat' (first|refine Sp.h ?_|refine Lk.r rfl ?_|refine Rf.mk rfl ?_|refine xT ?_|refine xN ?_|fail)
 exact ⟨_, prR pb sp bb mb m v vc p, .one (.same (.z)), rfl, rfl⟩
theorem pheld_a {N : Nat} (h : HldOK N p.H) : CallA Tryz.prog 24 [pm pb] (prR pb sp bb mb m v vc p) fun r own => r = evs (ordE (p.H.map (·.2))) ∧ own = prR pb sp bb mb m v vc p := by
 have h1 := dheld_a bb vc mb p.c p.H h
 refine CallA.of pg ord24 Tryz.func24 rfl Tryz.ntmps24 Tryz.results24 rfl fun h0 G0 O0 => ?_
 repeat' (first|refine Sp.h ?_|refine Lk.r rfl ?_|refine Rf.mk rfl ?_|refine xT ?_|fail)
 refine xW (h1) ?_
 rintro _ _ ⟨rfl, rfl⟩
 repeat' (first|refine Sp.h ?_|refine Lk.r rfl ?_|refine xN ?_|fail)
 exact ⟨_, prR pb sp bb mb m v vc p, .one (.same (.z)), rfl, rfl⟩
end
theorem anew_a (s : Nat) (m : ModS) (b : NowS) (v : Value) (evl : List EvS) (w : NowS) (h : ValC w.clock) : CallA Tryz.prog 40 [pm s] [stoR s m b v w, arrR v 40 13 evl evC] fun r own => ∃ pb bb vc mb, r = .tup [pm pb, it 0] ∧ own = prR pb s bb mb m v vc ⟨⟨b, evl, w⟩, w.clock, [], 0⟩ := by
 have h1 := sclock_p s m b v w (by have := h.2.2;omega)
 have h2 := dnew_a w.clock h
 refine CallA.of pg ord40 Tryz.func40 rfl Tryz.ntmps40 Tryz.results40 rfl fun h0 G0 O0 => ?_
 repeat' (first|refine Sp.h ?_|refine Lk.r rfl ?_|refine Rf.mk rfl ?_|refine xB ?_|fail)
 refine xW (h1) ?_
 rintro _ _ ⟨rfl, rfl⟩
 repeat' (first|refine Sp.h ?_|refine Lk.r rfl ?_|refine Rf.mk rfl ?_|fail)
 refine xW (h2) ?_
 rintro _ _ ⟨bb, vc, mb, rfl, rfl⟩
 repeat' (first|refine Sp.h ?_|refine Lk.r rfl ?_|refine Rf.mk rfl ?_|refine xA ?_|refine All.mk fun _=>?_|(apply Fk.r;focus repeat' first|infer_instance|constructor)|refine xN ?_|fail)
 rename_i pb
 exact ⟨_, prR pb s bb mb m v vc ⟨⟨b, evl, w⟩, w.clock, [], 0⟩, .tup (.same (.same (.z))), pb, bb, vc, mb, rfl, rfl⟩
noncomputable def newP (m : ModS) (n : Nat) (ld : List Int) : PrS := ⟨⟨stN m n ld [], [], stN m n ld []⟩, List.replicate n 0, [], 0⟩
theorem valC_zero {n : Nat} (h : 1 ≤ n ∧ n ≤ 5) : ValC (List.replicate n 0) := ⟨fun x hx => by rw [(List.mem_replicate.1 hx).2];unfold rngK;omega, by simp;omega, by simp;omega⟩
theorem hldOK_nil (N : Nat) : HldOK N [] := ⟨fun p hp => (nomatch hp), fun p hp => (nomatch hp), fun p hp => (nomatch hp), by simp, fun i j a b h => by simp at h⟩
theorem newP_fine {m : ModS} {n : Nat} {ld : List Int} (h : 1 ≤ n ∧ n ≤ 5) (hl : ld.length = strF m) : Fine m n 0 (newP m n ld) :=
 ⟨⟨⟨valC_zero h, hl, List.Pairwise.nil, Nat.zero_le _⟩, by simp [newP, stN, clkE], by simp [newP], hldOK_nil n, by simp [newP], by simp [newP, stN]⟩, fun e he => (nomatch he)⟩
theorem peer_a (m : ModS) (n : Nat) (ld : List Int) (hm : MOK m) (h : 1 ≤ n ∧ n ≤ 5) (hl : ld.length = strF m) (hs : insS ld) : CallA Tryz.prog 9 [mdl m, it n, ints ld] [] fun r own => ∃ pb sp bb mb v vc, r = pm pb ∧ own = prR pb sp bb mb m v vc (newP m n ld) := by
 have h1 : CallA Tryz.prog 39 [mdl m, it n, ints ld] [] fun q own => ∃ p v, q = .tup [pm p, it 0] ∧ own = [stoR p m (stN m n ld []) v (stN m n ld []), arrR v 40 13 ([] : List EvS) evC] := new35_a m n ld hm h hl hs
 have h2 := fun p v => anew_a p m (stN m n ld []) v [] (stN m n ld []) (valC_zero h)
 have h3 := fun pb sp bb mb v vc => pstore_a pb sp bb mb m v vc (newP m n ld)
 refine CallA.of pg ord9 Tryz.func9 rfl Tryz.ntmps9 Tryz.results9 rfl fun h0 G0 O0 => ?_
 repeat' (first|refine Sp.h ?_|refine Lk.r rfl ?_|refine Rf.mk rfl ?_|refine All.mk fun _=>?_|refine xT ?_|refine Ch.l ⟨rfl, rfl⟩ ?_|fail)
 refine xW (h1) ?_
 rintro _ _ ⟨p, v, rfl, rfl⟩
 have h2' := h2 p v
 repeat' (first|refine Sp.h ?_|refine Lk.r rfl ?_|refine Rf.mk rfl ?_|refine xA ?_|refine xB ?_|fail)
 refine xW (h2') ?_
 rintro _ _ ⟨pb, bb, vc, mb, rfl, rfl⟩
 have h3' := h3 pb p bb mb v vc
 repeat' (first|refine Sp.h ?_|refine Lk.r rfl ?_|refine Rf.mk rfl ?_|refine xA ?_|refine xB ?_|fail)
 refine xW (h3') ?_
 rintro _ _ ⟨rfl, rfl⟩
 repeat' (first|refine Sp.h ?_|refine Lk.r rfl ?_|refine Rf.mk rfl ?_|refine xB ?_|refine xN ?_|fail)
 exact ⟨_, prR pb p bb mb m v vc (newP m n ld), .one (.same (.z)), pb, p, bb, mb, v, vc, rfl, rfl⟩
end Go.Proofs.YtajenkpjcbaadaaGreat
namespace Go.Proofs.YtajenkpjcbaadaaGreat
open Go Go.CF
set_option maxRecDepth 20000
theorem hld_nodup {N : Nat} {H : List (List Int × EvS)} (h : HldOK N H) : (H.map (·.1)).Nodup := by
 have h1 := uniq_pair.1 h.nd
 rw [List.pairwise_map] at h1
 refine List.pairwise_map.2 (List.Pairwise.imp_of_mem (fun {a b} ha hb h9 h8 => h9 ?_) h1)
 have ka := h.key a ha;have kb := h.key b hb
 unfold nm
 rw [← ka, ← kb, h8]
theorem look_none {β : Type} {H : List (List Int × β)} {k : List Int} (h : lookL H k = none) : ∀ p ∈ H, p.1 ≠ k := fun p hp h9 => by
 unfold lookL at h
 rw [Option.map_eq_none_iff, List.find?_eq_none] at h
 exact h p hp (decide_eq_true h9)
theorem look_some {β : Type} {H : List (List Int × β)} {k : List Int} (h : (lookL H k).isSome = true) : ∃ p ∈ H, p.1 = k := by
 cases h9 : lookL H k with
 | none => rw [h9] at h;cases h
 | some v =>
  unfold lookL at h9
  cases h8 : H.find? fun p => decide (p.1 = k) with
  | none => rw [h8] at h9;cases h9
  | some p =>
   have := List.find?_some h8
   exact ⟨p, List.mem_of_find?_eq_some h8, of_decide_eq_true this⟩
theorem del_mem {N : Nat} {H : List (List Int × EvS)} (h : HldOK N H) {k : List Int} {q : List Int × EvS} (hq : q ∈ delL H k) : q ∈ H ∧ q.1 ≠ k := by
 refine ⟨(delL_sub k H).mem hq, ?_⟩
 have h1 := lookL_del (hld_nodup h) k k
 rw [if_pos rfl] at h1
 exact look_none h1 q hq
theorem del_keep {β : Type} {k : List Int} {q : List Int × β} : ∀ {H : List (List Int × β)}, q ∈ H → q.1 ≠ k → q ∈ delL H k
 | (k', u) :: H, hq, hk => by
  simp only [delL]
  split
  ·rename_i h9
   rcases List.mem_cons.1 hq with rfl|hq
   ·exact absurd h9 hk
   ·exact hq
  ·rcases List.mem_cons.1 hq with rfl|hq
   ·exact List.mem_cons_self
   ·exact List.mem_cons_of_mem _ (del_keep hq hk)
theorem rdy_iff {l D : List EvS} (hc : ClosedE l) (hD : Cau l D) {e : EvS} (he : e ∈ l) : RdyE (clkE (n0 l) D) e ↔ e ∉ D ∧ ∀ d ∈ l, HasC e.past d.rep d.num → d ∈ D := by
 have hr := n0_rng hc he
 have hf := hc.2.2.1 e he
 have hal : AlikeC [clkE (n0 l) D, e.past] := (alike2 _ _).2 ⟨clk_valC hc hD.sub hr, hf.1.1, by rw [clkE_len, hf.2]⟩
 constructor
 ·intro h
  refine ⟨fun h9 => h.1 ((clk_has hc hD he).2 h9), fun d hd hh => (clk_has hc hD hd).1 ?_⟩
  have hin := h.2 hal
  obtain ⟨_, g2, g3, x, g4, g5⟩ := hh
  obtain ⟨y, hy⟩ := get_of (l := clkE (n0 l) D) (i := d.rep.toNat) (by rw [clkE_len, ← hf.2];exact (List.getElem?_eq_some_iff.1 g4).1)
  exact ⟨hal.2 _ (by simp) |>.1, g2, g3, y, hy, by have := hin _ _ _ g4 hy;omega⟩
 ·intro h
  exact ⟨fun h9 => h.1 ((clk_has hc hD he).1 h9), fun _ => clk_ins hc hD he h.2⟩
theorem stlF_end {N : Nat} : ∀ (n : Nat) (c : List Int) (H : List (List Int × EvS)) (out : List EvS), HldOK N H → H.length < n → ∀ q ∈ (stlF n c H out).2.2, ¬ RdyE (stlF n c H out).2.1 q.2
 | 0, c, H, out, h, hn => by omega
 | n + 1, c, H, out, h, hn => by
  simp only [stlF]
  cases he : (ordE (H.map (·.2)))[idxN (rdyB c) (ordE (H.map (·.2)))]? with
  | none =>
   intro q hq hr
   have h1 : idxN (rdyB c) (ordE (H.map (·.2))) < (ordE (H.map (·.2))).length := idxN_lt.2 ⟨q.2, ordE_mem.2 (List.mem_map_of_mem hq), decide_eq_true hr⟩
   rw [List.getElem?_eq_getElem h1] at he
   cases he
  | some e =>
   obtain ⟨p, hp, rfl⟩ := List.mem_map.1 (ordE_mem.1 (List.mem_of_getElem? he))
   have := delL_len (k := [p.2.rep, p.2.num]) ⟨p, hp, h.key p hp⟩
   exact stlF_end n _ _ _ (h.del _) (by omega)
theorem clkE_snoc (n : Nat) (D : List EvS) (e : EvS) : clkE n (D ++ [e]) = cntF (clkE n D) e := by simp only [clkE, List.foldl_append, cntF];rfl
structure BufI (l D : List EvS) (c : List Int) (H : List (List Int × EvS)) : Prop where
 ext : ExtO l D
 clk : c = clkE (n0 l) D
 hld : HldOK (n0 l) H
 hin : ∀ q ∈ H, q.2 ∈ l ∧ q.2 ∉ D
def NrdI (l D : List EvS) (H : List (List Int × EvS)) : Prop := ∀ q ∈ H, ¬ ∀ d ∈ l, HasC q.2.past d.rep d.num → d ∈ D
theorem BufI.step {l D : List EvS} {c : List Int} {H : List (List Int × EvS)} (hc : ClosedE l) (h : BufI l D c H) {e : EvS} (he : e ∈ l) (hr : RdyE c e) : BufI l (D ++ [e]) (cntF c e) (delL H [e.rep, e.num]) := by
 rw [h.clk] at hr
 obtain ⟨h1, h2⟩ := (rdy_iff hc h.ext.all he).1 hr
 refine ⟨h.ext.snoc he h1 h2, by rw [clkE_snoc, ← h.clk], h.hld.del _, fun q hq => ?_⟩
 obtain ⟨hq1, hq2⟩ := del_mem h.hld hq
 refine ⟨(h.hin q hq1).1, fun h9 => ?_⟩
 rcases List.mem_append.1 h9 with h9|h9
 ·exact (h.hin q hq1).2 h9
 ·rw [List.mem_singleton] at h9
  rw [h.hld.key q hq1, h9] at hq2
  exact hq2 rfl
theorem stlF_inv {l D : List EvS} {c : List Int} {H : List (List Int × EvS)} (hc : ClosedE l) (h : BufI l D c H) (n : Nat) :
  BufI l (D ++ (stlF n c H []).1) (stlF n c H []).2.1 (stlF n c H []).2.2 ∧ (∀ q ∈ H, q.2 ∈ D ++ (stlF n c H []).1 ∨ q ∈ (stlF n c H []).2.2) := by
 have := stlF_ind (fun c' K o => BufI l (D ++ o) c' K ∧ (∀ q ∈ H, q.2 ∈ D ++ o ∨ q ∈ K)) (fun d K o p hK h1 hp hr => by
  obtain ⟨b, g⟩ := h1
  have hb := b.step hc (b.hin p hp).1 hr
  rw [List.append_assoc] at hb
  refine ⟨hb, fun q hq => ?_⟩
  rcases g q hq with g|g
  ·left;rw [← List.append_assoc];exact List.mem_append_left _ g
  ·by_cases hqp : q.1 = [p.2.rep, p.2.num]
   ·left
    have hqe : q.2 = p.2 := by
     have h9 := hK.key q g
     rw [hqp] at h9
     simp only [List.cons.injEq, and_true] at h9
     exact uniqP_of hc.2.1 _ (b.hin q g).1 _ (b.hin p hp).1 h9.1.symm h9.2.symm
    rw [hqe, ← List.append_assoc]
    exact List.mem_append_right _ List.mem_cons_self
   ·exact .inr (del_keep g hqp)) n c H [] h.hld ⟨by rw [List.append_nil];exact h, fun q hq => .inr hq⟩
 exact this.2
theorem extO_nodup {l D : List EvS} (h : ExtO l D) : D.Nodup := by
 refine List.pairwise_iff_getElem.2 fun i j hi hj hij h9 => ?_
 refine (h.nxt j _ (List.getElem?_eq_getElem hj)).1 ?_
 rw [← h9]
 exact List.mem_of_getElem? (i := i) (by rw [List.getElem?_take, if_pos hij, List.getElem?_eq_getElem hi])
theorem extO_len {l D : List EvS} (h : ExtO l D) : D.length ≤ l.length := (extO_nodup h).length_le_of_subset h.sub
theorem hld_len {l : List EvS} {N : Nat} {H : List (List Int × EvS)} (h : HldOK N H) (hin : ∀ q ∈ H, q.2 ∈ l) : H.length ≤ l.length := by
 have h1 : (H.map (·.2)).Nodup := (uniq_pair.1 h.nd).imp fun {a b} h9 h8 => h9 (by rw [h8])
 have := h1.length_le_of_subset (l₂ := l) fun x hx => by obtain ⟨q, hq, rfl⟩ := List.mem_map.1 hx;exact hin q hq
 rwa [List.length_map] at this
structure AddR (l D : List EvS) (H : List (List Int × EvS)) (e : EvS) (r : Int × List EvS × List Int × List (List Int × EvS)) : Prop where
 b : BufI l (D ++ r.2.1) r.2.2.1 r.2.2.2
 nrd : NrdI l (D ++ r.2.1) r.2.2.2
 got : e ∈ D ++ r.2.1 ∨ ∃ q ∈ r.2.2.2, q.2 = e
 keep : ∀ q ∈ H, q.2 ∈ D ++ r.2.1 ∨ q ∈ r.2.2.2
 out : ∀ x ∈ r.2.1, x = e ∨ ∃ q ∈ H, q.2 = x
 mem : ∀ q ∈ r.2.2.2, q ∈ H ∨ q.2 = e
theorem addB_inv {l D : List EvS} {c : List Int} {H : List (List Int × EvS)} (hc : ClosedE l) (hl : l.length ≤ 100) (h : BufI l D c H) (hn : NrdI l D H) {e : EvS} (he : e ∈ l) : AddR l D H e (addB c H e) := by
 have hf := hc.2.2.1 e he
 have hcl : c.length = n0 l := by rw [h.clk, clkE_len]
 have ho := addB_ok e h.hld hcl
 have hHl := hld_len h.hld fun q hq => (h.hin q hq).1
 have hid : ∀ k : Int, addB c H e = (k, [], c, H) → (e ∈ D ∨ ∃ q ∈ H, q.2 = e) → AddR l D H e (addB c H e) := fun k h9 h8 => by
  rw [h9]
  exact ⟨by rw [List.append_nil];exact h, by rw [List.append_nil];exact hn, by rw [List.append_nil];exact h8, fun q hq => .inr hq, fun x hx => (nomatch hx), fun q hq => .inl hq⟩
 have k1 : ¬ (¬ FormedE e ∨ e.past.length ≠ c.length) := by
  rintro (h9|h9)
  ·exact h9 hf.1
  ·exact h9 (by rw [hcl];exact hf.2)
 by_cases q1 : (lookL H [e.rep, e.num]).isSome = true ∨ HasC c e.rep e.num
 ·refine hid 6 (by rw [addB, if_neg k1, if_pos q1]) ?_
  rcases q1 with q1|q1
  ·obtain ⟨p, hp, hk⟩ := look_some q1
   rw [h.hld.key p hp] at hk
   simp only [List.cons.injEq, and_true] at hk
   exact .inr ⟨p, hp, uniqP_of hc.2.1 _ (h.hin p hp).1 _ he hk.1 hk.2⟩
  ·rw [h.clk] at q1
   exact .inl ((clk_has hc h.ext.all he).1 q1)
 have hlk : lookL H [e.rep, e.num] = none := by
  cases h9 : lookL H [e.rep, e.num] with
  | none => rfl
  | some v => exact absurd (.inl (by rw [h9];rfl)) q1
 have hne : ∀ q ∈ H, q.1 ≠ [e.rep, e.num] := look_none hlk
 by_cases q3 : RdyE c e
 ·have hr : addB c H e = (0, e :: (stlF ((delL H [e.rep, e.num]).length + 1) (cntF c e) (delL H [e.rep, e.num]) []).1, (stlF ((delL H [e.rep, e.num]).length + 1) (cntF c e) (delL H [e.rep, e.num]) []).2) := by rw [addB, if_neg k1, if_neg q1, if_pos q3]
  have hb := h.step hc he q3
  obtain ⟨s1, s2⟩ := stlF_inv hc hb ((delL H [e.rep, e.num]).length + 1)
  have s3 := stlF_end ((delL H [e.rep, e.num]).length + 1) (cntF c e) (delL H [e.rep, e.num]) [] hb.hld (Nat.lt_succ_self _)
  rw [List.append_assoc, List.singleton_append] at s1 s2
  have o3 := ho.out
  have o4 := ho.mem
  rw [hr] at o3 o4 ⊢
  refine ⟨s1, fun q hq h9 => s3 q hq ?_, .inl (List.mem_append_right _ List.mem_cons_self), fun q hq => s2 q (del_keep hq (hne q hq)), o3, o4⟩
  have h8 := s1.hin q hq
  have := (rdy_iff hc s1.ext.all h8.1).2 ⟨h8.2, h9⟩
  rwa [← s1.clk] at this
 ·have hr : addB c H e = (0, [], c, updL H [e.rep, e.num] e) := by rw [addB, if_neg k1, if_neg q1, if_neg q3, if_neg (by omega)]
  have hu := updL_none H [e.rep, e.num] e hlk
  have hnd : e ∉ D := fun h9 => q1 (.inr (by rw [h.clk];exact (clk_has hc h.ext.all he).2 h9))
  have hall : ∀ q ∈ updL H [e.rep, e.num] e, q ∈ H ∨ q = ([e.rep, e.num], e) := fun q hq => by
   rw [hu] at hq
   rcases List.mem_append.1 hq with hq|hq
   ·exact .inl hq
   ·exact .inr (List.mem_singleton.1 hq)
  have hld := ho.hld
  rw [hr] at hld ⊢
  refine ⟨⟨by rw [List.append_nil];exact h.ext, by rw [List.append_nil];exact h.clk, hld, fun q hq => ?_⟩, fun q hq => ?_, .inr ⟨([e.rep, e.num], e), by simp only;rw [hu];simp, rfl⟩, fun q hq => .inr (by simp only;rw [hu];exact List.mem_append_left _ hq), fun x hx => (nomatch hx), fun q hq => ?_⟩
  ·rw [List.append_nil]
   rcases hall q hq with hq|rfl
   ·exact h.hin q hq
   ·exact ⟨he, hnd⟩
  ·rw [List.append_nil]
   rcases hall q hq with hq|rfl
   ·exact hn q hq
   ·intro h9
    exact q3 (by rw [h.clk];exact (rdy_iff hc h.ext.all he).2 ⟨hnd, h9⟩)
  ·rcases hall q hq with hq|rfl
   ·exact .inl hq
   ·exact .inr rfl
end Go.Proofs.YtajenkpjcbaadaaGreat
namespace Go.Proofs.YtajenkpjcbaadaaGreat
open Go Go.CF
set_option maxRecDepth 20000
theorem deliver_les {m : ModS} {evl D : List EvS} {w : NowS} {e : EvS} (hs : ∀ x ∈ evl, x ∈ D) (h : (deliverF m D w e).1 = 0) : deliverF m evl w e = deliverF m D w e := by
 have hl : LateE evl e → LateE D e := fun ⟨x, h1, h2⟩ => ⟨x, hs x h1, h2⟩
 unfold deliverF at h ⊢
 by_cases c1 : ¬ EvV m (w.clock.length : Nat) e
 ·rw [if_pos c1, if_pos c1]
 rw [if_neg c1] at h ⊢
 rw [if_neg c1]
 by_cases c2 : HasC w.clock e.rep e.num
 ·rw [if_pos c2, if_pos c2]
 rw [if_neg c2] at h ⊢
 rw [if_neg c2]
 by_cases c3 : ¬ Ins e.past w.clock
 ·rw [if_pos c3, if_pos c3]
 rw [if_neg c3] at h ⊢
 rw [if_neg c3]
 by_cases c4 : LateE D e
 ·rw [if_pos c4] at h;exact absurd (show (2 : Int) = 0 from h) (by decide)
 rw [if_neg c4, if_neg fun h9 => c4 (hl h9)]
structure InvP (m : ModS) (ld : List Int) (l D : List EvS) (p : PrS) : Prop where
 err : p.err = 0
 sto : StoA m l ld D p.s.now
 evs : p.s.evs.Sublist D
 buf : BufI l D p.c p.H
 nrd : NrdI l D p.H
theorem dlvF_inv {m : ModS} {ld : List Int} {l : List EvS} (hs : SuitS m ld l) : ∀ (X D : List EvS) (s : StoS) (out : List EvS), ExtO l (D ++ X) → StoA m l ld D s.now → s.evs.Sublist D →
  ∃ w', dlvF m X s out = (0, ⟨s.base, s.evs ++ X, w'⟩, out ++ X) ∧ StoA m l ld (D ++ X) w'
 | [], D, s, out, _, h, _ => ⟨s.now, by simp [dlvF], by rw [List.append_nil];exact h⟩
 | x :: X, D, s, out, hx, h, hsub => by
  have hlen := extO_len hx
  have hl60 := hs.e.2.1.1
  simp only [List.length_append, List.length_cons] at hlen
  have hgx : (D ++ x :: X)[D.length]? = some x := by simp
  obtain ⟨n1, n2⟩ := hx.nxt _ _ hgx
  have hc := hx.cau D.length
  rw [List.take_left] at n1 n2 hc
  obtain ⟨w', d1, d2⟩ := deliver_ok hs.e (by omega) hs.smd hs.ld h (by omega) hc (hx.sub x (by simp)) n1 n2
  have d3 := deliver_les (m := m) (evl := s.evs) (fun y hy => hsub.mem hy) (by rw [d1])
  rw [d1] at d3
  have hx' : ExtO l ((D ++ [x]) ++ X) := by rw [List.append_assoc];exact hx
  obtain ⟨w2, e1, e2⟩ := dlvF_inv hs X (D ++ [x]) ⟨s.base, s.evs ++ [x], w'⟩ (out ++ [x]) hx' d2 (hsub.append (List.Sublist.refl _))
  refine ⟨w2, ?_, by rw [List.append_assoc] at e2;exact e2⟩
  simp only [dlvF, d3, if_pos]
  rw [e1]
  simp
structure TakR (m : ModS) (ld : List Int) (l D : List EvS) (p : PrS) (l' X : List EvS) (p' : PrS) : Prop where
 inv : InvP m ld l (D ++ X) p'
 evs : p'.s.evs = p.s.evs ++ X
 base : p'.s.base = p.s.base
 got : ∀ e ∈ l', e ∈ D ++ X ∨ ∃ q ∈ p'.H, q.2 = e
 keep : ∀ q ∈ p.H, q.2 ∈ D ++ X ∨ q ∈ p'.H
 out : ∀ x ∈ X, x ∈ l' ∨ ∃ q ∈ p.H, q.2 = x
 mem : ∀ q ∈ p'.H, q ∈ p.H ∨ q.2 ∈ l'
theorem takF_inv {m : ModS} {ld : List Int} {l : List EvS} (hs : SuitS m ld l) : ∀ (l' D : List EvS) (p : PrS) (out : List EvS), (∀ e ∈ l', e ∈ l) → InvP m ld l D p →
  ∃ X p', takF m l' p out = (0, p', out ++ X) ∧ TakR m ld l D p l' X p'
 | [], D, p, out, _, h => ⟨[], p, by simp [takF], ⟨by rw [List.append_nil];exact h, by simp, rfl, fun e he => (nomatch he), fun q hq => .inr hq, fun x hx => (nomatch hx), fun q hq => .inl hq⟩⟩
 | e :: l', D, p, out, hl', h => by
  have hc := hs.e.2.2.1
  have hl60 := hs.e.2.1.1
  have he := hl' e List.mem_cons_self
  have hv : EvV m (p.s.now.clock.length : Nat) e := by rw [h.sto.clock, clkE_len];exact hs.e.2.2.2.2 e he
  have ha := addB_inv hc (by omega) h.buf h.nrd he
  obtain ⟨A, hA⟩ : ∃ A, A = addB p.c p.H e := ⟨_, rfl⟩
  rw [← hA] at ha
  obtain ⟨w', d1, d2⟩ := dlvF_inv hs A.2.1 D p.s out ha.b.ext h.sto h.evs
  obtain ⟨p1, hp1⟩ : ∃ p1 : PrS, p1 = ⟨⟨p.s.base, p.s.evs ++ A.2.1, w'⟩, A.2.2.1, A.2.2.2, p.err⟩ := ⟨_, rfl⟩
  have hi1 : InvP m ld l (D ++ A.2.1) p1 := by
   rw [hp1]
   exact ⟨h.err, d2, h.evs.append (List.Sublist.refl _), ha.b, ha.nrd⟩
  obtain ⟨X, p', t1, t2⟩ := takF_inv hs l' (D ++ A.2.1) p1 (out ++ A.2.1) (fun x hx => hl' x (List.mem_cons_of_mem _ hx)) hi1
  have eH : p1.H = A.2.2.2 := by rw [hp1]
  have eE : p1.s.evs = p.s.evs ++ A.2.1 := by rw [hp1]
  have eB : p1.s.base = p.s.base := by rw [hp1]
  refine ⟨A.2.1 ++ X, p', ?_, ⟨by rw [← List.append_assoc];exact t2.inv, by rw [t2.evs, eE, List.append_assoc], by rw [t2.base, eB], fun x hx => ?_, fun q hq => ?_, fun x hx => ?_, fun q hq => ?_⟩⟩
  ·simp only [takF, ← hA, d1, if_pos]
   rw [if_neg (fun h9 => h9 hv), ← hp1, t1, List.append_assoc]
  ·rw [← List.append_assoc]
   rcases List.mem_cons.1 hx with rfl|hx
   ·rcases ha.got with g|⟨q, hq, rfl⟩
    ·exact .inl (List.mem_append_left _ g)
    ·rcases t2.keep q (by rw [eH];exact hq) with g|g
     ·exact .inl g
     ·exact .inr ⟨q, g, rfl⟩
   ·exact t2.got x hx
  ·rw [← List.append_assoc]
   rcases ha.keep q hq with g|g
   ·exact .inl (List.mem_append_left _ g)
   ·exact t2.keep q (by rw [eH];exact g)
  ·rcases List.mem_append.1 hx with hx|hx
   ·rcases ha.out x hx with rfl|g
    ·exact .inl List.mem_cons_self
    ·exact .inr g
   ·rcases t2.out x hx with g|⟨q, hq, rfl⟩
    ·exact .inl (List.mem_cons_of_mem _ g)
    ·rw [eH] at hq
     rcases ha.mem q hq with g|g
     ·exact .inr ⟨q, g, rfl⟩
     ·rw [g];exact .inl List.mem_cons_self
  ·rcases t2.mem q hq with g|g
   ·rw [eH] at g
    rcases ha.mem q g with g|g
    ·exact .inl g
    ·rw [g];exact .inr List.mem_cons_self
   ·exact .inr (List.mem_cons_of_mem _ g)
theorem takeF_inv {m : ModS} {ld : List Int} {l l' D : List EvS} {p : PrS} (hs : SuitS m ld l) (hl' : ∀ e ∈ l', e ∈ l) (h : InvP m ld l D p) : ∃ X p', takeF m l' p = (0, p', X) ∧ TakR m ld l D p l' X p' := by
 obtain ⟨X, p', t1, t2⟩ := takF_inv hs l' D p [] hl' h
 refine ⟨X, p', ?_, t2⟩
 rw [takeF, if_neg (fun h9 => h9 h.err), t1, List.nil_append]
theorem newP_inv {m : ModS} {ld : List Int} {l : List EvS} (hs : SuitS m ld l) : InvP m ld l [] (newP m (n0 l) ld) :=
 ⟨rfl, sto0 m l ld, List.Sublist.refl _, ⟨ExtO.nil l, rfl, hldOK_nil _, fun q hq => (nomatch hq)⟩, fun q hq => (nomatch hq)⟩
theorem InvP.fine {m : ModS} {ld : List Int} {l D : List EvS} {p : PrS} (hs : SuitS m ld l) (h : InvP m ld l D p) : Fine m (n0 l) 200 p := by
 have hc := hs.e.2.2.1
 have hl60 := hs.e.2.1.1
 obtain ⟨e, he⟩ := get_of (l := l) (i := 0) hs.ne
 have hr := n0_rng hc (List.mem_of_getElem? he)
 have h1 := extO_len h.buf.ext
 have h2 := hld_len h.buf.hld fun q hq => (h.buf.hin q hq).1
 have h3 := h.evs.length_le
 have hp : p.s.now.places.length ≤ D.length := by
  rw [h.sto.places, places_srt]
  have := srtD_len (plL D);have := plL_len D
  omega
 refine ⟨⟨⟨by rw [h.sto.clock];exact clk_valC hc h.buf.ext.sub hr, by rw [h.sto.state, foldE_len];exact hs.ln, by rw [h.sto.places, places_srt];exact (srtD_si _).1, by omega⟩, by rw [h.sto.clock, clkE_len], by rw [h.buf.clk, clkE_len], h.buf.hld, by omega, by omega⟩, fun x hx => ?_⟩
 have := (hc.2.2.1 x (h.buf.ext.sub x (h.evs.mem hx))).1.1.2.2
 omega
theorem all_here {m : ModS} {ld : List Int} {l D : List EvS} {p : PrS} (hs : SuitS m ld l) (h : InvP m ld l D p) (S : List EvS) (hS : ExtO l S) (hk : ∀ e ∈ S, e ∈ D ∨ ∃ q ∈ p.H, q.2 = e) : ∀ e ∈ S, e ∈ D := by
 have key : ∀ i, i ≤ S.length → ∀ e ∈ S.take i, e ∈ D := by
  intro i
  induction i with
  | zero => intro _ e he;simp at he
  | succ i ih =>
   intro hi e he
   obtain ⟨x, hx⟩ := get_of (l := S) (i := i) (by omega)
   rw [List.take_add_one, hx] at he
   rcases List.mem_append.1 he with he|he
   ·exact ih (by omega) e he
   ·rw [Option.toList_some, List.mem_singleton] at he
    subst he
    rcases hk e (List.mem_of_getElem? hx) with g|⟨q, hq, rfl⟩
    ·exact g
    ·exact absurd (fun d hd hh => ih (by omega) d ((hS.nxt i _ hx).2 d hd hh)) (h.nrd q hq)
 intro e he
 exact key S.length (Nat.le_refl _) e (by rw [List.take_length];exact he)
end Go.Proofs.YtajenkpjcbaadaaGreat
namespace Go.Proofs.YtajenkpjcbaadaaGreat
open Go Go.CF
set_option maxRecDepth 20000
def Cov (out : List SpS) (r n : Int) : Prop := ∃ s ∈ out, s.1 = r ∧ s.2.1 ≤ n ∧ n ≤ s.2.2
def szS : List SpS → Int
 | [] => 0
 | s :: l => s.2.2 - s.2.1 + 1 + szS l
theorem szS_app : ∀ a b : List SpS, szS (a ++ b) = szS a + szS b
 | [], b => by simp [szS]
 | s :: a, b => by simp only [List.cons_append, szS, szS_app a b];omega
theorem cov_app (a b : List SpS) (r n : Int) : Cov (a ++ b) r n ↔ Cov a r n ∨ Cov b r n := by
 unfold Cov
 constructor
 ·rintro ⟨s, hs, h⟩
  rcases List.mem_append.1 hs with hs|hs
  ·exact .inl ⟨s, hs, h⟩
  ·exact .inr ⟨s, hs, h⟩
 ·rintro (⟨s, hs, h⟩|⟨s, hs, h⟩)
  ·exact ⟨s, List.mem_append_left _ hs, h⟩
  ·exact ⟨s, List.mem_append_right _ hs, h⟩
theorem cov_one (s : SpS) (r n : Int) : Cov [s] r n ↔ s.1 = r ∧ s.2.1 ≤ n ∧ n ≤ s.2.2 := by
 unfold Cov
 constructor
 ·rintro ⟨x, hx, h⟩;rw [List.mem_singleton.1 hx] at h;exact h
 ·intro h;exact ⟨s, List.mem_cons_self, h⟩
theorem wnt1_nil (hb : Int → Int → Bool) (r n : Int) : wnt1 hb r n [] = if hb r n = true then [] else [(r, n, n)] := by
 unfold wnt1;rfl
theorem wnt1_snoc (hb : Int → Int → Bool) (r n : Int) (o : List SpS) (s : SpS) : wnt1 hb r n (o ++ [s]) = if hb r n = true then o ++ [s] else if s.1 = r ∧ s.2.2 = n - 1 then o ++ [(s.1, s.2.1, n)] else (o ++ [s]) ++ [(r, n, n)] := by
 unfold wnt1
 rw [show (o ++ [s])[(o ++ [s]).length - 1]? = some s by simp]
 have : (o ++ [s]).set ((o ++ [s]).length - 1) (s.1, s.2.1, n) = o ++ [(s.1, s.2.1, n)] := by simp
 simp only [this]
theorem wnt1_ok {N : Nat} {hb : Int → Int → Bool} {r n : Int} {out : List SpS} (hr : 0 ≤ r ∧ r < (N : Int)) (hn : 1 ≤ n ∧ n ≤ 1024) (h : ∀ s ∈ out, okSp N s) :
  (∀ s ∈ wnt1 hb r n out, okSp N s) ∧ (∀ q j, Cov (wnt1 hb r n out) q j ↔ Cov out q j ∨ q = r ∧ j = n ∧ hb r n = false) ∧ szS (wnt1 hb r n out) = szS out + (if hb r n = true then 0 else 1) := by
 have hone : okSp N (r, n, n) := ⟨hr.1, hr.2, hn.1, Int.le_refl _, hn.2⟩
 cases hb1 : hb r n with
 | true =>
  have hw : wnt1 hb r n out = out := by unfold wnt1;rw [if_pos hb1]
  rw [hw]
  exact ⟨h, fun q j => ⟨.inl, fun h9 => h9.elim id fun h8 => (nomatch h8.2.2)⟩, by simp⟩
 | false =>
  have happ : ∀ o : List SpS, (∀ s ∈ o, okSp N s) → (∀ s ∈ o ++ [(r, n, n)], okSp N s) ∧ (∀ q j, Cov (o ++ [(r, n, n)]) q j ↔ Cov o q j ∨ q = r ∧ j = n ∧ false = false) ∧ szS (o ++ [(r, n, n)]) = szS o + 1 := fun o ho => by
   refine ⟨fun s hs => ?_, fun q j => ?_, ?_⟩
   ·rcases List.mem_append.1 hs with hs|hs
    ·exact ho s hs
    ·rw [List.mem_singleton.1 hs];exact hone
   ·rw [cov_app, cov_one]
    refine or_congr Iff.rfl ⟨fun h9 => ⟨h9.1.symm, by have := h9.2;simp only at this;omega, rfl⟩, fun h9 => ⟨h9.1.symm, by simp only;omega, by simp only;omega⟩⟩
   ·rw [szS_app];simp only [szS];omega
  rcases List.eq_nil_or_concat out with rfl|⟨o, s, rfl⟩
  ·rw [wnt1_nil, hb1, if_neg Bool.false_ne_true]
   have := happ [] (fun s hs => (nomatch hs))
   rw [List.nil_append] at this
   exact this
  ·rw [List.concat_eq_append] at h ⊢
   rw [wnt1_snoc, hb1, if_neg Bool.false_ne_true]
   by_cases hc : s.1 = r ∧ s.2.2 = n - 1
   ·rw [if_pos hc]
    obtain ⟨r', f, t⟩ := s
    obtain ⟨rfl, h2⟩ := hc
    simp only at h2
    subst h2
    obtain ⟨k1, k2, k3, k4, k5⟩ := h (r', f, n - 1) (List.mem_append_right _ List.mem_cons_self)
    simp only at k1 k2 k3 k4 k5
    refine ⟨fun s hs => ?_, fun q j => ?_, ?_⟩
    ·rcases List.mem_append.1 hs with hs|hs
     ·exact h s (List.mem_append_left _ hs)
     ·rw [List.mem_singleton.1 hs]
      exact ⟨k1, k2, k3, by simp only;omega, hn.2⟩
    ·rw [cov_app, cov_app, cov_one, cov_one, or_assoc]
     refine or_congr Iff.rfl ?_
     simp only
     constructor
     ·intro h9
      by_cases hj : j = n
      ·exact .inr ⟨h9.1.symm, hj, trivial⟩
      ·exact .inl ⟨h9.1, h9.2.1, by omega⟩
     ·rintro (h9|h9)
      ·exact ⟨h9.1, h9.2.1, by omega⟩
      ·exact ⟨h9.1.symm, by omega, by omega⟩
    ·simp only [szS_app, szS, if_neg Bool.false_ne_true];omega
   ·rw [if_neg hc]
    exact happ _ h
theorem wntR_ok {N : Nat} {hb : Int → Int → Bool} {r : Int} (hr : 0 ≤ r ∧ r < (N : Int)) : ∀ (k : Nat) (n : Int) (out : List SpS), 1 ≤ n → n + k ≤ 1025 → (∀ s ∈ out, okSp N s) →
  (∀ s ∈ wntR hb r k n out, okSp N s) ∧ ∀ q j, Cov (wntR hb r k n out) q j ↔ Cov out q j ∨ q = r ∧ n ≤ j ∧ j < n + k ∧ hb r j = false
 | 0, n, out, _, _, h => ⟨h, fun q j => ⟨.inl, fun h9 => h9.elim id fun h8 => by omega⟩⟩
 | k + 1, n, out, h1, h2, h => by
  obtain ⟨g1, g2, g3⟩ := wnt1_ok (hb := hb) (n := n) hr (by omega) h
  obtain ⟨i1, i2⟩ := wntR_ok hr (hb := hb) k (n + 1) _ (by omega) (by omega) g1
  refine ⟨i1, fun q j => ?_⟩
  rw [wntR, i2, g2, or_assoc]
  refine or_congr Iff.rfl ⟨?_, ?_⟩
  ·rintro (h9|h9)
   ·exact ⟨h9.1, by omega, by omega, by rw [h9.2.1];exact h9.2.2⟩
   ·exact ⟨h9.1, by omega, by omega, h9.2.2.2⟩
  ·rintro ⟨h9, h8, h7, h6⟩
   by_cases hj : j = n
   ·exact .inl ⟨h9, hj, by rw [← hj];exact h6⟩
   ·exact .inr ⟨h9, by omega, by omega, h6⟩
theorem wntL_ok {N : Nat} {hb : Int → Int → Bool} : ∀ (l out : List SpS), (∀ s ∈ l, okSp N s) → (∀ s ∈ out, okSp N s) →
  (∀ s ∈ wntL hb l out, okSp N s) ∧ ∀ q j, Cov (wntL hb l out) q j ↔ Cov out q j ∨ Cov l q j ∧ hb q j = false
 | [], out, _, h => ⟨h, fun q j => ⟨.inl, fun h9 => h9.elim id fun ⟨⟨s, hs, _⟩, _⟩ => (nomatch hs)⟩⟩
 | s :: l, out, hl, h => by
  obtain ⟨k1, k2, k3, k4, k5⟩ := hl s List.mem_cons_self
  obtain ⟨g1, g2⟩ := wntR_ok (hb := hb) ⟨k1, k2⟩ (s.2.2 + 1 - s.2.1).toNat s.2.1 out k3 (by omega) h
  obtain ⟨i1, i2⟩ := wntL_ok (hb := hb) l _ (fun x hx => hl x (List.mem_cons_of_mem _ hx)) g1
  refine ⟨i1, fun q j => ?_⟩
  rw [wntL, i2, g2, or_assoc]
  refine or_congr Iff.rfl ⟨?_, ?_⟩
  ·rintro (⟨h9, h8, h7, h6⟩|⟨⟨x, hx, h9⟩, h8⟩)
   ·exact ⟨⟨s, List.mem_cons_self, h9.symm, h8, by omega⟩, by rw [h9];exact h6⟩
   ·exact ⟨⟨x, List.mem_cons_of_mem _ hx, h9⟩, h8⟩
  ·rintro ⟨⟨x, hx, h9, h8, h7⟩, h6⟩
   rcases List.mem_cons.1 hx with rfl|hx
   ·exact .inl ⟨h9.symm, h8, by omega, by rw [h9];exact h6⟩
   ·exact .inr ⟨⟨x, hx, h9, h8, h7⟩, h6⟩
theorem misF_ok {a b : List Int} (ha : ValC a) (hb : ValC b) (hab : a.length = b.length) : (∀ s ∈ misF a b, okSp a.length s) ∧ ∀ q j, Cov (misF a b) q j ↔ 0 ≤ q ∧ ∃ x y, a[q.toNat]? = some x ∧ b[q.toNat]? = some y ∧ x < j ∧ j ≤ y := by
 refine ⟨fun s hs => ?_, fun q j => ⟨?_, ?_⟩⟩
 ·obtain ⟨i, x, y, h1, h2, h3, h4, rfl⟩ := misN_mem.1 hs
  have a1 := ha.1 x (List.mem_of_getElem? h2)
  have a2 := hb.1 y (List.mem_of_getElem? h3)
  unfold rngK at a1 a2
  exact ⟨by simp only;omega, by simp only;omega, by simp only;omega, by simp only;omega, by simp only;omega⟩
 ·rintro ⟨s, hs, h9, h8, h7⟩
  obtain ⟨i, x, y, h1, h2, h3, h4, rfl⟩ := misN_mem.1 hs
  simp only at h9 h8 h7
  subst h9
  exact ⟨by omega, x, y, by rw [Int.toNat_natCast];exact h2, by rw [Int.toNat_natCast];exact h3, by omega, by omega⟩
 ·rintro ⟨h0', x, y, h1, h2, h3, h4⟩
  exact ⟨((q.toNat : Int), x + 1, y), misN_mem.2 ⟨q.toNat, x, y, (List.getElem?_eq_some_iff.1 h1).1, h1, h2, by omega, rfl⟩, by simp only;omega, by simp only;omega, by simp only;omega⟩
end Go.Proofs.YtajenkpjcbaadaaGreat
namespace Go.Proofs.YtajenkpjcbaadaaGreat
open Go Go.CF
set_option maxRecDepth 20000
noncomputable def offL (D l : List EvS) : List EvS := l.filter fun e => decide (e ∉ D)
theorem off_mem {D l : List EvS} {e : EvS} : e ∈ offL D l ↔ e ∈ l ∧ e ∉ D := by
 unfold offL;rw [List.mem_filter, decide_eq_true_iff]
abbrev heldE (p : PrS) : List EvS := p.H.map (·.2)
theorem sndL_eq {m : ModS} {ld : List Int} {l Da Db : List EvS} {a b : PrS} (hs : SuitS m ld l) (ha : InvP m ld l Da a) (hb : InvP m ld l Db b) (most : Int) (hmo : 1 ≤ most ∧ most ≤ 1024) :
  sndL (n0 l) most a b = (offL (Db ++ heldE b) a.s.evs).take most.toNat := by
 have hc := hs.e.2.2.1
 obtain ⟨e0, he0⟩ := get_of (l := l) (i := 0) hs.ne
 have hr := n0_rng hc (List.mem_of_getElem? he0)
 have va := clk_valC hc ha.buf.ext.sub hr
 have vb := clk_valC hc hb.buf.ext.sub hr
 have hla : (clkE (n0 l) Da).length = n0 l := clkE_len ..
 have hlb : (clkE (n0 l) Db).length = n0 l := clkE_len ..
 obtain ⟨m1, m2⟩ := misF_ok vb va (by rw [hla, hlb])
 obtain ⟨w1, w2⟩ := wntL_ok (hb := hldB b.H) (misF (clkE (n0 l) Db) (clkE (n0 l) Da)) [] m1 (fun s hs => (nomatch hs))
 rw [hlb] at w1
 unfold sndL
 rw [ha.sto.clock, hb.sto.clock, wantsF, if_pos ⟨va, by rw [hla, hlb]⟩]
 rw [serve_ok _ _ _ _ ⟨hmo, w1⟩]
 simp only
 congr 1
 unfold offL
 refine List.filter_congr fun e he => ?_
 have heD := ha.evs.mem he
 have hel := ha.buf.ext.sub e heD
 have hfe := (hc.2.2.1 e hel)
 have hrp := rep_rng hfe.1
 have hha := (clk_has hc ha.buf.ext.all hel).2 heD
 have hheld : hldB b.H e.rep e.num = true ↔ e ∈ heldE b := by
  unfold hldB
  rw [decide_eq_true_iff]
  constructor
  ·rintro ⟨q, hq, h1, h2⟩
   rw [← uniqP_of hc.2.1 _ (hb.buf.hin q hq).1 _ hel h1 h2]
   exact List.mem_map_of_mem hq
  ·intro h9
   obtain ⟨q, hq, h9⟩ := List.mem_map.1 h9
   exact ⟨q, hq, by rw [h9], by rw [h9]⟩
 unfold inSp
 refine decide_eq_decide.2 ?_
 have hcov := w2 e.rep e.num
 constructor
 ·intro h9 h8
  obtain ⟨s, hs1, hs2⟩ := h9
  have h7 : Cov (wntL (hldB b.H) (misF (clkE (n0 l) Db) (clkE (n0 l) Da)) []) e.rep e.num := ⟨s, hs1, hs2⟩
  rcases hcov.1 h7 with ⟨x, hx, _⟩|⟨h6, h5⟩
  ·cases hx
  ·rcases List.mem_append.1 h8 with h8|h8
   ·have hhb := (clk_has hc hb.buf.ext.all hel).2 h8
    obtain ⟨_, x, y, x1, y1, x2, y2⟩ := (m2 _ _).1 h6
    obtain ⟨_, _, _, z, z1, z2⟩ := hhb
    rw [x1] at z1;cases z1
    omega
   ·rw [hheld.2 h8] at h5;cases h5
 ·intro h9
  have h8 : Cov (wntL (hldB b.H) (misF (clkE (n0 l) Db) (clkE (n0 l) Da)) []) e.rep e.num := by
   refine hcov.2 (.inr ⟨(m2 _ _).2 ⟨hrp.1, ?_⟩, ?_⟩)
   ·obtain ⟨_, _, g3, y, y1, y2⟩ := hha
    obtain ⟨x, hx⟩ := get_of (l := clkE (n0 l) Db) (i := e.rep.toNat) (by rw [hlb, ← hla];exact (List.getElem?_eq_some_iff.1 y1).1)
    refine ⟨x, y, hx, y1, ?_, y2⟩
    rcases Int.lt_or_le x e.num with h7|h7
    ·exact h7
    ·exact absurd (List.mem_append_left _ ((clk_has hc hb.buf.ext.all hel).1 ⟨vb, hrp.1, g3, x, hx, h7⟩)) h9
   ·cases h7 : hldB b.H e.rep e.num with
    | false => rfl
    | true => exact absurd (List.mem_append_right _ (hheld.1 h7)) h9
  exact h8
/-! ### One direction -/
structure SndR (m : ModS) (ld : List Int) (l Da Db : List EvS) (a b : PrS) (most : Int) (X : List EvS) : Prop where
 zero : (sndF m (n0 l) most a b).1 = 0
 tak : TakR m ld l Db b (sndL (n0 l) most a b) X (sndF m (n0 l) most a b).2
theorem snd_ok {m : ModS} {ld : List Int} {l Da Db : List EvS} {a b : PrS} (hs : SuitS m ld l) (ha : InvP m ld l Da a) (hb : InvP m ld l Db b) (most : Int) (hmo : 1 ≤ most ∧ most ≤ 1024) : ∃ X, SndR m ld l Da Db a b most X := by
 have hsub : ∀ e ∈ sndL (n0 l) most a b, e ∈ l := fun e he => by
  rw [sndL_eq hs ha hb most hmo] at he
  exact ha.buf.ext.sub e (ha.evs.mem (off_mem.1 (List.mem_of_mem_take he)).1)
 obtain ⟨X, p', t1, t2⟩ := takeF_inv hs hsub hb
 exact ⟨X, by rw [sndF, t1], by rw [sndF, t1];exact t2⟩
noncomputable def unk (l D : List EvS) (p : PrS) : Nat := (offL (D ++ heldE p) l).length
theorem uniq_nodupE {l : List EvS} (h : Uniq l) : l.Nodup := (uniq_pair.1 h).imp fun {a b} h9 h8 => h9 (by rw [h8])
theorem sndL_nodup {m : ModS} {ld : List Int} {l Da Db : List EvS} {a b : PrS} (hs : SuitS m ld l) (ha : InvP m ld l Da a) (hb : InvP m ld l Db b) (most : Int) (hmo : 1 ≤ most ∧ most ≤ 1024) : (sndL (n0 l) most a b).Nodup := by
 rw [sndL_eq hs ha hb most hmo]
 exact ((extO_nodup ha.buf.ext).sublist ha.evs |>.filter _).sublist (List.take_sublist _ _)
theorem snd_unk {m : ModS} {ld : List Int} {l Da Db X : List EvS} {a b : PrS} (hs : SuitS m ld l) (ha : InvP m ld l Da a) (hb : InvP m ld l Db b) (most : Int) (hmo : 1 ≤ most ∧ most ≤ 1024) (h : SndR m ld l Da Db a b most X) :
  unk l (Db ++ X) (sndF m (n0 l) most a b).2 + (sndL (n0 l) most a b).length ≤ unk l Db b := by
 have hc := hs.e.2.2.1
 have hnd := sndL_nodup hs ha hb most hmo
 have hL := sndL_eq hs ha hb most hmo
 unfold unk
 rw [← List.length_append]
 refine List.Nodup.length_le_of_subset (List.nodup_append.2 ⟨(uniq_nodupE hc.2.1).filter _, hnd, fun x hx y hy h9 => ?_⟩) fun x hx => ?_
 ·subst h9
  refine (off_mem.1 hx).2 ?_
  rcases h.tak.got x hy with g|⟨q, hq, rfl⟩
  ·exact List.mem_append_left _ g
  ·exact List.mem_append_right _ (List.mem_map_of_mem hq)
 ·rcases List.mem_append.1 hx with hx|hx
  ·obtain ⟨h1, h2⟩ := off_mem.1 hx
   refine off_mem.2 ⟨h1, fun h9 => h2 ?_⟩
   rcases List.mem_append.1 h9 with h9|h9
   ·exact List.mem_append_left _ (List.mem_append_left _ h9)
   ·obtain ⟨q, hq, rfl⟩ := List.mem_map.1 h9
    rcases h.tak.keep q hq with g|g
    ·exact List.mem_append_left _ g
    ·exact List.mem_append_right _ (List.mem_map_of_mem g)
  ·rw [hL] at hx
   obtain ⟨h1, h2⟩ := off_mem.1 (List.mem_of_mem_take hx)
   exact off_mem.2 ⟨ha.buf.ext.sub x (ha.evs.mem h1), h2⟩
def Covers (Da Db : List EvS) (a : PrS) : Prop := ∀ e ∈ Da, e ∉ Db → e ∈ a.s.evs
theorem snd_nil {m : ModS} {ld : List Int} {l Da Db : List EvS} {a b : PrS} (hs : SuitS m ld l) (ha : InvP m ld l Da a) (hb : InvP m ld l Db b) (most : Int) (hmo : 1 ≤ most ∧ most ≤ 1024) (hcv : Covers Da Db a) (h : sndL (n0 l) most a b = []) : ∀ e ∈ Da, e ∈ Db := by
 refine all_here hs hb Da ha.buf.ext fun e he => ?_
 rw [sndL_eq hs ha hb most hmo] at h
 have hz : offL (Db ++ heldE b) a.s.evs = [] := by
  rcases List.take_eq_nil_iff.1 h with h9|h9
  ·omega
  ·exact h9
 by_cases h1 : e ∈ Db
 ·exact .inl h1
 ·by_cases h2 : e ∈ heldE b
  ·obtain ⟨q, hq, h9⟩ := List.mem_map.1 h2
   exact .inr ⟨q, hq, h9⟩
  ·have : e ∈ offL (Db ++ heldE b) a.s.evs := off_mem.2 ⟨hcv e he h1, fun h9 => (List.mem_append.1 h9).elim h1 h2⟩
   rw [hz] at this;cases this
theorem take_nil {m : ModS} {p : PrS} (h : p.err = 0) : takeF m [] p = (0, p, []) := by rw [takeF, if_neg (fun h9 => h9 h)];rfl
theorem snd_id {m : ModS} {N : Nat} {most : Int} {a b : PrS} (hb : b.err = 0) (h : sndL N most a b = []) : sndF m N most a b = (0, b) := by rw [sndF, h, take_nil hb]
structure RecR (m : ModS) (ld : List Int) (l Da Db : List EvS) (a b : PrS) (Xa Xb : List EvS) (a' b' : PrS) : Prop where
 ia : InvP m ld l (Da ++ Xa) a'
 ib : InvP m ld l (Db ++ Xb) b'
 ea : a'.s.evs = a.s.evs ++ Xa
 eb : b'.s.evs = b.s.evs ++ Xb
 ba : a'.s.base = a.s.base
 bb : b'.s.base = b.s.base
 same : ∀ e, e ∈ Da ++ Xa ↔ e ∈ Db ++ Xb
 new : ∀ e ∈ Da ++ Xa, e ∈ Da ∨ e ∈ Db ∨ e ∈ heldE a ∨ e ∈ heldE b
theorem covers_app {Da Db X : List EvS} {a a' : PrS} (h : Covers Da Db a) (he : a'.s.evs = a.s.evs ++ X) (Y : List EvS) : Covers (Da ++ X) (Db ++ Y) a' := fun e h1 h2 => by
 rw [he]
 rcases List.mem_append.1 h1 with h1|h1
 ·exact List.mem_append_left _ (h e h1 fun h9 => h2 (List.mem_append_left _ h9))
 ·exact List.mem_append_right _ h1
theorem rec_ex {m : ModS} {ld : List Int} {l : List EvS} (hs : SuitS m ld l) (most : Int) (hmo : 1 ≤ most ∧ most ≤ 1024) : ∀ (μ : Nat) (Da Db : List EvS) (a b : PrS), unk l Da a + unk l Db b ≤ μ → InvP m ld l Da a → InvP m ld l Db b → Covers Da Db a → Covers Db Da b →
  ∃ R S a' b' Xa Xb, RecK m (n0 l) 200 most a b R S a' b' ∧ R ≤ μ + 1 ∧ S ≤ μ ∧ RecR m ld l Da Db a b Xa Xb a' b' := by
 intro μ
 induction μ using Nat.strongRecOn with
 | ind μ ih =>
  intro Da Db a b hμ ha hb ca cb
  obtain ⟨X, hX⟩ := snd_ok hs ha hb most hmo
  obtain ⟨b1, hb1⟩ : ∃ b1, b1 = (sndF m (n0 l) most a b).2 := ⟨_, rfl⟩
  have hib := hX.tak.inv
  rw [← hb1] at hib
  obtain ⟨Y, hY⟩ := snd_ok hs hib ha most hmo
  obtain ⟨a1, ha1⟩ : ∃ a1, a1 = (sndF m (n0 l) most b1 a).2 := ⟨_, rfl⟩
  have hia := hY.tak.inv
  rw [← ha1] at hia
  have u1 := snd_unk hs ha hb most hmo hX
  have u2 := snd_unk hs hib ha most hmo hY
  rw [← hb1] at u1
  rw [← ha1] at u2
  have fa := ha.fine hs;have fb := hb.fine hs;have fb1 := hib.fine hs
  by_cases hz : (sndL (n0 l) most a b).length + (sndL (n0 l) most b1 a).length = 0
  ·have z1 : sndL (n0 l) most a b = [] := List.eq_nil_of_length_eq_zero (by omega)
   have z2 : sndL (n0 l) most b1 a = [] := List.eq_nil_of_length_eq_zero (by omega)
   have e1 : b1 = b := by rw [hb1, snd_id hb.err z1]
   have e2 : a1 = a := by rw [ha1, snd_id ha.err z2]
   have g1 := snd_nil hs ha hb most hmo ca z1
   rw [e1] at z2
   have g2 := snd_nil hs hb ha most hmo cb z2
   have hk : RecK m (n0 l) 200 most a b 1 0 (sndF m (n0 l) most (sndF m (n0 l) most a b).2 a).2 (sndF m (n0 l) most a b).2 :=
    .last fa fb (by rw [← hb1];exact fb1) hX.zero (by rw [← hb1];exact hY.zero) z1 (by rw [← hb1, e1];exact z2)
   rw [← hb1, ← ha1, e1, e2] at hk
   exact ⟨1, 0, a, b, [], [], hk, by omega, by omega, ⟨by rw [List.append_nil];exact ha, by rw [List.append_nil];exact hb, by simp, by simp, rfl, rfl, fun e => by rw [List.append_nil, List.append_nil];exact ⟨g1 e, g2 e⟩, fun e he => by rw [List.append_nil] at he;exact .inl he⟩⟩
  ·have cb1 : Covers (Db ++ X) (Da ++ Y) b1 := covers_app cb (by rw [hb1];exact hX.tak.evs) Y
   have ca1 : Covers (Da ++ Y) (Db ++ X) a1 := covers_app ca (by rw [ha1];exact hY.tak.evs) X
   obtain ⟨R, S, a', b', Xa, Xb, k1, k2, k3, k4⟩ := ih (unk l (Da ++ Y) a1 + unk l (Db ++ X) b1) (by omega) (Da ++ Y) (Db ++ X) a1 b1 (Nat.le_refl _) hia hib ca1 cb1
   have hk : RecK m (n0 l) 200 most a b (R + 1) ((sndL (n0 l) most a b).length + (sndL (n0 l) most (sndF m (n0 l) most a b).2 a).length + S) a' b' :=
    .step fa fb (by rw [← hb1];exact fb1) hX.zero (by rw [← hb1];exact hY.zero) (by rw [← hb1];omega) (by rw [← hb1, ← ha1];exact k1)
   rw [← hb1] at hk
   have oX : ∀ e ∈ X, e ∈ Da ∨ e ∈ heldE b := fun e he => by
    rcases hX.tak.out e he with g|⟨q, hq, rfl⟩
    ·rw [sndL_eq hs ha hb most hmo] at g
     exact .inl (ha.evs.mem (off_mem.1 (List.mem_of_mem_take g)).1)
    ·exact .inr (List.mem_map_of_mem hq)
   have oY : ∀ e ∈ Y, e ∈ Db ++ X ∨ e ∈ heldE a := fun e he => by
    rcases hY.tak.out e he with g|⟨q, hq, rfl⟩
    ·rw [sndL_eq hs hib ha most hmo] at g
     exact .inl (hib.evs.mem (off_mem.1 (List.mem_of_mem_take g)).1)
    ·exact .inr (List.mem_map_of_mem hq)
   have hha : ∀ e ∈ heldE a1, e ∈ heldE a ∨ e ∈ Db ++ X := fun e he => by
    obtain ⟨q, hq, rfl⟩ := List.mem_map.1 he
    rw [ha1] at hq
    rcases hY.tak.mem q hq with g|g
    ·exact .inl (List.mem_map_of_mem g)
    ·rw [sndL_eq hs hib ha most hmo] at g
     exact .inr (hib.evs.mem (off_mem.1 (List.mem_of_mem_take g)).1)
   have hhb : ∀ e ∈ heldE b1, e ∈ heldE b ∨ e ∈ Da := fun e he => by
    obtain ⟨q, hq, rfl⟩ := List.mem_map.1 he
    rw [hb1] at hq
    rcases hX.tak.mem q hq with g|g
    ·exact .inl (List.mem_map_of_mem g)
    ·rw [sndL_eq hs ha hb most hmo] at g
     exact .inr (ha.evs.mem (off_mem.1 (List.mem_of_mem_take g)).1)
   have nX : ∀ e ∈ Db ++ X, e ∈ Da ∨ e ∈ Db ∨ e ∈ heldE a ∨ e ∈ heldE b := fun e he => by
    rcases List.mem_append.1 he with g|g
    ·exact .inr (.inl g)
    ·rcases oX e g with g|g
     ·exact .inl g
     ·exact .inr (.inr (.inr g))
   have nY : ∀ e ∈ Da ++ Y, e ∈ Da ∨ e ∈ Db ∨ e ∈ heldE a ∨ e ∈ heldE b := fun e he => by
    rcases List.mem_append.1 he with g|g
    ·exact .inl g
    ·rcases oY e g with g|g
     ·exact nX e g
     ·exact .inr (.inr (.inl g))
   refine ⟨R + 1, _, a', b', Y ++ Xa, X ++ Xb, hk, by omega, by omega, ⟨by rw [← List.append_assoc];exact k4.ia, by rw [← List.append_assoc];exact k4.ib, ?_, ?_, by rw [k4.ba, ha1, hY.tak.base], by rw [k4.bb, hb1, hX.tak.base], fun e => by rw [← List.append_assoc, ← List.append_assoc];exact k4.same e, fun e he => ?_⟩⟩
   ·rw [k4.ea, ha1, hY.tak.evs, List.append_assoc]
   ·rw [k4.eb, hb1, hX.tak.evs, List.append_assoc]
   ·rw [← List.append_assoc] at he
    rcases k4.new e he with g|g|g|g
    ·exact nY e g
    ·exact nX e g
    ·rcases hha e g with g|g
     ·exact .inr (.inr (.inl g))
     ·exact nX e g
    ·rcases hhb e g with g|g
     ·exact .inr (.inr (.inr g))
     ·exact .inl g
end Go.Proofs.YtajenkpjcbaadaaGreat
namespace Go.Proofs.YtajenkpjcbaadaaGreat
open Go Go.CF
set_option maxRecDepth 20000
theorem ext_prefix {l A B : List EvS} (h : ExtO l (A ++ B)) : ExtO l A := by
 refine ⟨fun e he => h.sub e (List.mem_append_left _ he), fun i e he => ?_⟩
 have hi := (List.getElem?_eq_some_iff.1 he).1
 have := h.nxt i e (by rw [List.getElem?_append_left hi];exact he)
 rwa [List.take_append_of_le_length (by omega)] at this
theorem off_app {D a b : List EvS} : offL D (a ++ b) = offL D a ++ offL D b := List.filter_append ..
theorem ext_off {l Da Db : List EvS} (ha : ExtO l Da) (hb : ExtO l Db) : ∀ i, i ≤ Da.length → ExtO l (Db ++ offL Db (Da.take i)) := by
 intro i
 induction i with
 | zero => intro _;rw [List.take_zero];simpa [offL] using hb
 | succ i ih =>
  intro hi
  obtain ⟨e, he⟩ := get_of (l := Da) (i := i) (by omega)
  have h1 := ih (by omega)
  obtain ⟨n1, n2⟩ := ha.nxt i e he
  rw [List.take_add_one, he, off_app]
  by_cases hd : e ∈ Db
  ·rw [show offL Db (some e).toList = [] by simp [offL, hd], List.append_nil]
   exact h1
  ·rw [show offL Db (some e).toList = [e] by simp [offL, hd], ← List.append_assoc]
   refine h1.snoc (ha.sub e (List.mem_of_getElem? he)) (fun h9 => ?_) fun d hd2 hh => ?_
   ·rcases List.mem_append.1 h9 with h9|h9
    ·exact hd h9
    ·exact n1 (off_mem.1 h9).1
   ·have := n2 d hd2 hh
    by_cases hdd : d ∈ Db
    ·exact List.mem_append_left _ hdd
    ·exact List.mem_append_right _ (off_mem.2 ⟨this, hdd⟩)
theorem off_sub {evl Da Db : List EvS} (hs : evl.Sublist Da) (hn : Da.Nodup) (h : ∀ e ∈ Da, e ∉ Db → e ∈ evl) : offL Db evl = offL Db Da := by
 refine (hs.filter _).eq_of_length_le ?_
 exact List.Nodup.length_le_of_subset (hn.filter _) fun e he => by
  obtain ⟨h1, h2⟩ := off_mem.1 he
  exact off_mem.2 ⟨h e h1 h2, h2⟩
structure Free (m : ModS) (ld : List Int) (l Da Db : List EvS) (a b : PrS) : Prop where
 ia : InvP m ld l Da a
 ib : InvP m ld l Db b
 na : a.H = []
 nb : b.H = []
 ca : Covers Da Db a
 cb : Covers Db Da b
theorem Free.symm {m : ModS} {ld : List Int} {l Da Db : List EvS} {a b : PrS} (h : Free m ld l Da Db a b) : Free m ld l Db Da b a := ⟨h.ib, h.ia, h.nb, h.na, h.cb, h.ca⟩
theorem free_sndL {m : ModS} {ld : List Int} {l Da Db : List EvS} {a b : PrS} (hs : SuitS m ld l) (h : Free m ld l Da Db a b) (most : Int) (hmo : 1 ≤ most ∧ most ≤ 1024) : sndL (n0 l) most a b = (offL Db Da).take most.toNat := by
 rw [sndL_eq hs h.ia h.ib most hmo, heldE, h.nb, List.map_nil, List.append_nil, off_sub h.ia.evs (extO_nodup h.ia.buf.ext) h.ca]
theorem free_snd {m : ModS} {ld : List Int} {l Da Db X : List EvS} {a b : PrS} (hs : SuitS m ld l) (h : Free m ld l Da Db a b) (most : Int) (hmo : 1 ≤ most ∧ most ≤ 1024) (hX : SndR m ld l Da Db a b most X) :
  Free m ld l Da (Db ++ X) a (sndF m (n0 l) most a b).2 ∧ (∀ e, e ∈ X ↔ e ∈ (offL Db Da).take most.toNat) ∧ X.length = min most.toNat (offL Db Da).length ∧ (offL (Db ++ X) Da).length + X.length = (offL Db Da).length ∧ (offL Da (Db ++ X)).length = (offL Da Db).length := by
 have hL := free_sndL hs h most hmo
 obtain ⟨L, hLd⟩ : ∃ L, L = (offL Db Da).take most.toNat := ⟨_, rfl⟩
 rw [← hLd] at hL ⊢
 have hext : ExtO l (Db ++ L) := by
  have := ext_off h.ia.buf.ext h.ib.buf.ext Da.length (Nat.le_refl _)
  rw [List.take_length, ← List.take_append_drop most.toNat (offL Db Da), ← hLd, ← List.append_assoc] at this
  exact ext_prefix this
 have hgot : ∀ e ∈ Db ++ L, e ∈ Db ++ X := all_here hs hX.tak.inv (Db ++ L) hext fun e he => by
  rcases List.mem_append.1 he with he|he
  ·exact .inl (List.mem_append_left _ he)
  ·exact hX.tak.got e (by rw [hL];exact he)
 have hnd := extO_nodup hX.tak.inv.buf.ext
 have hndL := extO_nodup hext
 have hXL : ∀ e ∈ X, e ∈ L := fun e he => by
  rcases hX.tak.out e he with g|⟨q, hq, _⟩
  ·rw [hL] at g;exact g
  ·rw [h.nb] at hq;cases hq
 have hLX : ∀ e ∈ L, e ∈ X := fun e he => by
  rcases List.mem_append.1 (hgot e (List.mem_append_right _ he)) with g|g
  ·exact absurd rfl ((List.nodup_append.1 hndL).2.2 e g e he)
  ·exact g
 have hlen : X.length = L.length := Nat.le_antisymm ((List.nodup_append.1 hnd).2.1.length_le_of_subset hXL) ((List.nodup_append.1 hndL).2.1.length_le_of_subset hLX)
 have hLo : ∀ e ∈ X, e ∈ Da ∧ e ∉ Db := fun e he => off_mem.1 (List.mem_of_mem_take (by rw [hLd] at hXL;exact hXL e he))
 refine ⟨⟨h.ia, hX.tak.inv, h.na, ?_, fun e h1 h2 => h.ca e h1 fun h9 => h2 (List.mem_append_left _ h9), fun e h1 h2 => ?_⟩, fun e => ⟨hXL e, hLX e⟩, by rw [hlen, hLd, List.length_take], ?_, ?_⟩
 ·refine List.eq_nil_iff_forall_not_mem.2 fun q hq => ?_
  rcases hX.tak.mem q hq with g|g
  ·rw [h.nb] at g;cases g
  ·rw [hL] at g
   exact (hX.tak.inv.buf.hin q hq).2 (hgot _ (List.mem_append_right _ g))
 ·rw [hX.tak.evs]
  rcases List.mem_append.1 h1 with h1|h1
  ·exact List.mem_append_left _ (h.cb e h1 h2)
  ·exact List.mem_append_right _ h1
 ·have hnDa := extO_nodup h.ia.buf.ext
  rw [← List.length_append]
  refine Nat.le_antisymm (List.Nodup.length_le_of_subset (List.nodup_append.2 ⟨hnDa.filter _, (List.nodup_append.1 hnd).2.1, fun x hx y hy h9 => ?_⟩) fun x hx => ?_) (List.Nodup.length_le_of_subset (hnDa.filter _) fun x hx => ?_)
  ·subst h9
   exact (off_mem.1 hx).2 (List.mem_append_right _ hy)
  ·rcases List.mem_append.1 hx with hx|hx
   ·obtain ⟨h1, h2⟩ := off_mem.1 hx
    exact off_mem.2 ⟨h1, fun h9 => h2 (List.mem_append_left _ h9)⟩
   ·exact off_mem.2 (hLo x hx)
  ·obtain ⟨h1, h2⟩ := off_mem.1 hx
   by_cases hxX : x ∈ X
   ·exact List.mem_append_right _ hxX
   ·exact List.mem_append_left _ (off_mem.2 ⟨h1, fun h9 => (List.mem_append.1 h9).elim h2 hxX⟩)
 ·rw [off_app, show offL Da X = [] from List.filter_eq_nil_iff.2 fun e he => by simp [(hLo e he).1], List.append_nil]
theorem rounds_step (k x y : Nat) (hk : 1 ≤ k) (h : 0 < min k x + min k y) : (max x y + k - 1) / k = 1 + (max (x - min k x) (y - min k y) + k - 1) / k := by
 rcases Nat.lt_or_ge (max x y) k with h1|h1
 ·rw [show max (x - min k x) (y - min k y) = 0 by omega, show (0 + k - 1) / k = 0 from Nat.div_eq_of_lt (by omega)]
  rw [show max x y + k - 1 = (max x y - 1) + k by omega, Nat.add_div_right _ (by omega), Nat.div_eq_of_lt (by omega)]
 ·rw [show max (x - min k x) (y - min k y) = max x y - k by omega]
  rw [show max x y + k - 1 = (max x y - k + k - 1) + k by omega, Nat.add_div_right _ (by omega), Nat.add_comm]
theorem rec_count {m : ModS} {ld : List Int} {l : List EvS} (hs : SuitS m ld l) (most : Int) (hmo : 1 ≤ most ∧ most ≤ 1024) {a b a' b' : PrS} {R S : Nat} (h : RecK m (n0 l) 200 most a b R S a' b') : ∀ Da Db, Free m ld l Da Db a b →
  R = 1 + (max (offL Da Db).length (offL Db Da).length + most.toNat - 1) / most.toNat ∧ S = (offL Da Db).length + (offL Db Da).length ∧ a'.H = [] ∧ b'.H = [] := by
 have hk : 1 ≤ most.toNat := by omega
 induction h with
 | @last a b _ _ _ _ _ z1 z2 =>
  intro Da Db hF
  have e1 : (sndF m (n0 l) most a b).2 = b := by rw [snd_id hF.ib.err z1]
  rw [e1] at z2 ⊢
  have e2 : (sndF m (n0 l) most b a).2 = a := by rw [snd_id hF.ia.err z2]
  rw [e2]
  rw [free_sndL hs hF most hmo] at z1
  rw [free_sndL hs hF.symm most hmo] at z2
  have y1 : offL Db Da = [] := (List.take_eq_nil_iff.1 z1).elim (fun h9 => by omega) id
  have y2 : offL Da Db = [] := (List.take_eq_nil_iff.1 z2).elim (fun h9 => by omega) id
  rw [y1, y2]
  refine ⟨?_, rfl, hF.na, hF.nb⟩
  rw [show (max ([] : List EvS).length ([] : List EvS).length + most.toNat - 1) / most.toNat = 0 from Nat.div_eq_of_lt (by simp;omega)]
 | @step a b a' b' r s _ _ _ _ _ hp _ ih =>
  intro Da Db hF
  obtain ⟨X, hX⟩ := snd_ok hs hF.ia hF.ib most hmo
  obtain ⟨f1, f2, f3, f4, f5⟩ := free_snd hs hF most hmo hX
  obtain ⟨Y, hY⟩ := snd_ok hs f1.ib f1.ia most hmo
  obtain ⟨g1, g2, g3, g4, g5⟩ := free_snd hs f1.symm most hmo hY
  obtain ⟨i1, i2, i3, i4⟩ := ih _ _ g1.symm
  have l1 : (sndL (n0 l) most a b).length = X.length := by rw [free_sndL hs hF most hmo, List.length_take, f3]
  have l2 : (sndL (n0 l) most (sndF m (n0 l) most a b).2 a).length = Y.length := by rw [free_sndL hs f1.symm most hmo, List.length_take, g3]
  rw [l1, l2] at hp ⊢
  have hx := rounds_step most.toNat (offL Da Db).length (offL Db Da).length hk (by omega)
  refine ⟨?_, by omega, i3, i4⟩
  rw [i1, hx]
  have a1 : (offL (Da ++ Y) (Db ++ X)).length = (offL Da Db).length - min most.toNat (offL Da Db).length := by omega
  have a2 : (offL (Db ++ X) (Da ++ Y)).length = (offL Db Da).length - min most.toNat (offL Db Da).length := by omega
  rw [a1, a2]
  omega
theorem tak_all {m : ModS} {ld : List Int} {l D l' X S : List EvS} {p p' : PrS} (hs : SuitS m ld l) (hH : p.H = []) (h : TakR m ld l D p l' X p') (hS : ExtO l (D ++ S)) (hl : ∀ e, e ∈ S ↔ e ∈ l') : (∀ e, e ∈ X ↔ e ∈ l') ∧ X.length = S.length ∧ p'.H = [] := by
 have hgot : ∀ e ∈ D ++ S, e ∈ D ++ X := all_here hs h.inv (D ++ S) hS fun e he => by
  rcases List.mem_append.1 he with he|he
  ·exact .inl (List.mem_append_left _ he)
  ·exact h.got e ((hl e).1 he)
 have hnd := extO_nodup h.inv.buf.ext
 have hndS := extO_nodup hS
 have hXl : ∀ e ∈ X, e ∈ l' := fun e he => by
  rcases h.out e he with g|⟨q, hq, _⟩
  ·exact g
  ·rw [hH] at hq;cases hq
 have hSX : ∀ e ∈ S, e ∈ X := fun e he => by
  rcases List.mem_append.1 (hgot e (List.mem_append_right _ he)) with g|g
  ·exact absurd rfl ((List.nodup_append.1 hndS).2.2 e g e he)
  ·exact g
 refine ⟨fun e => ⟨hXl e, fun h9 => hSX e ((hl e).2 h9)⟩, Nat.le_antisymm ((List.nodup_append.1 hnd).2.1.length_le_of_subset fun e he => (hl e).2 (hXl e he)) ((List.nodup_append.1 hndS).2.1.length_le_of_subset hSX), ?_⟩
 refine List.eq_nil_iff_forall_not_mem.2 fun q hq => ?_
 rcases h.mem q hq with g|g
 ·rw [hH] at g;cases g
 ·exact (h.inv.buf.hin q hq).2 (hgot _ (List.mem_append_right _ ((hl _).2 g)))
end Go.Proofs.YtajenkpjcbaadaaGreat
namespace Go.Proofs.YtajenkpjcbaadaaGreat
open Go Go.CF
set_option maxRecDepth 20000
def sumC (c : List Int) : Int := c.foldl (· + ·) 0
theorem sumC_succ {c : List Int} {i : Nat} {x : Int} (h : c[i]? = some x) : sumC (c.take (i + 1)) = sumC (c.take i) + x := by
 unfold sumC
 rw [List.take_add_one, h, Option.toList_some, List.foldl_append]
 rfl
theorem sumC_bnd {c : List Int} (h : ValC c) : ∀ i, i ≤ c.length → 0 ≤ sumC (c.take i) ∧ sumC (c.take i) ≤ 1024 * (i : Int) := by
 intro i
 induction i with
 | zero => intro _;simp [sumC]
 | succ i ih =>
  intro hi
  obtain ⟨x, hx⟩ := get_of (l := c) (i := i) (by omega)
  have h1 := ih (by omega)
  have h2 := h.1 x (List.mem_of_getElem? hx)
  unfold rngK at h2
  rw [sumC_succ hx]
  omega
theorem countP_p (c : List Int) (h : ValC c) : CallP Tryz.prog 13 [ints c] (it (sumC c)) := by
 have hv := validC_p c
 rw [decide_eq_true h] at hv
 have h5 := h.2
 refine CallA.of pg ord13 Tryz.func13 rfl Tryz.ntmps13 Tryz.results13 rfl fun h0 G0 O0 => ?_
 repeat' (first|refine Sp.h ?_|refine Lk.r rfl ?_|refine Rf.mk rfl ?_|refine xA ?_|refine Im.mk fun _=>?_|(apply Cl.p (hv);focus repeat' constructor))
 refine CA.loop (fun i : Nat => ⟨[(3, it (sumC (c.take i))), (9, ints c), (10, it (c.length : Nat)), (11, it i)], []⟩) (fun i => i ≤ c.length) (fun i => c.length - i) 0 xE (Nat.zero_le _) ?_
 intro i hi
 have hb := sumC_bnd h i hi
 by_cases hin : i < c.length
 ·obtain ⟨x, hx⟩ := get_of hin
  have h2 := h.1 x (List.mem_of_getElem? hx)
  unfold rngK at h2
  repeat' (first|refine Sp.h ?_|refine Lk.r rfl ?_|refine Rf.mk rfl ?_|refine xA ?_|refine xI ?_|refine xO ?_|fail)
  rw [← sumC_succ hx]
  all_goals exact PA.lp (i + 1) xE ⟨hin, by omega⟩
 ·have hie : i = c.length := by omega
  subst hie
  rw [List.take_length]
  repeat' (first|refine Sp.h ?_|refine Lk.r rfl ?_|refine Rf.mk rfl ?_|refine xB ?_|refine xN ?_|fail)
  all_goals exact Fin.p rfl rfl
end Go.Proofs.YtajenkpjcbaadaaGreat
namespace Go.Proofs.YtajenkpjcbaadaaGreat
open Go Go.CF
set_option maxRecDepth 20000
theorem foldl_add : ∀ (c : List Int) (a : Int), c.foldl (· + ·) a = a + c.foldl (· + ·) 0
 | [], a => by simp
 | x :: c, a => by
  simp only [List.foldl_cons]
  rw [foldl_add c (a + x), foldl_add c (0 + x)]
  omega
theorem sumC_cons (x : Int) (c : List Int) : sumC (x :: c) = x + sumC c := by
 unfold sumC
 rw [List.foldl_cons, foldl_add c (0 + x)]
 omega
theorem sumC_set : ∀ {c : List Int} {i : Nat} {x : Int} (y : Int), c[i]? = some x → sumC (c.set i y) = sumC c + (y - x)
 | [], i, x, y, h => by simp at h
 | a :: c, 0, x, y, h => by
  cases h
  rw [List.set_cons_zero, sumC_cons, sumC_cons]
  omega
 | a :: c, i + 1, x, y, h => by
  rw [List.set_cons_succ, sumC_cons, sumC_cons, sumC_set y (by simpa using h)]
  omega
theorem sumC_zero : ∀ n : Nat, sumC (List.replicate n 0) = 0
 | 0 => rfl
 | n + 1 => by rw [List.replicate_succ, sumC_cons, sumC_zero n];rfl
theorem sum_cnt {l D : List EvS} (hc : ClosedE l) (hD : ExtO l D) : sumC (clkE (n0 l) D) = (D.length : Nat) := by
 have key : ∀ i, i ≤ D.length → sumC (clkE (n0 l) (D.take i)) = (i : Nat) := by
  intro i
  induction i with
  | zero => intro _;rw [List.take_zero];exact sumC_zero _
  | succ i ih =>
   intro hi
   obtain ⟨e, he⟩ := get_of (l := D) (i := i) (by omega)
   obtain ⟨h1, h2⟩ := hD.nxt i e he
   have hel := hD.sub e (List.mem_of_getElem? he)
   have hca := hD.cau i
   have hf := hc.2.2.1 e hel
   have hr := formed_rep hf.1
   obtain ⟨_, _, ⟨p, f3, f4⟩, _⟩ := hf.1
   obtain ⟨x, hx⟩ := get_of (l := clkE (n0 l) (D.take i)) (i := e.rep.toNat) (by rw [clkE_len, ← hf.2];exact hr.2.1)
   have hin := clk_ins hc hca hel h2 _ _ _ f3 hx
   have hno : ¬ e.num ≤ x := fun h9 => h1 ((clk_has hc hca hel).1 ⟨clk_valC hc hca.1 (n0_rng hc hel), hr.1, hr.2.2, x, hx, h9⟩)
   rw [List.take_add_one, he, Option.toList_some, clkE_snoc, cntF, sumC_set _ hx, ih (by omega), hx, Option.getD_some]
   omega
 have := key D.length (Nat.le_refl _)
 rwa [List.take_length] at this
def EvK (l : List EvS) (k : List Int) : Prop := ∀ (i : Nat) x, k[i]? = some x → 1 ≤ x → ∃ e ∈ l, e.rep.toNat = i ∧ 0 ≤ e.rep ∧ e.num = x
theorem ins_join {a b : List Int} (h : a.length = b.length) : Ins a (joinC a b) ∧ Ins b (joinC a b) := by
 constructor
 ·intro i x y hx hy
  obtain ⟨p, q, h1, h2, rfl⟩ := (zipC_at h).1 hy
  rw [hx] at h1;cases h1;omega
 ·intro i x y hx hy
  obtain ⟨p, q, h1, h2, rfl⟩ := (zipC_at h).1 hy
  rw [hx] at h2;cases h2;omega
theorem ins_trans {a b c : List Int} (hab : Ins a b) (hbc : Ins b c) (h : a.length = b.length) : Ins a c := fun i x z hx hz => by
 obtain ⟨y, hy⟩ := get_of (l := b) (i := i) (by rw [← h];exact (List.getElem?_eq_some_iff.1 hx).1)
 have := hab i x y hx hy
 have := hbc i y z hy hz
 omega
theorem Part.join {l : List EvS} {ac bc : List Int} (hc : ClosedE l) (ha : Part l ac) (hb : Part l bc) : Part l (joinC ac bc) := by
 have hl : ac.length = bc.length := ha.len.trans hb.len.symm
 obtain ⟨i1, i2⟩ := ins_join hl
 refine ⟨joinC_val ha.val hb.val hl, by rw [joinC_len hl];exact ha.len, fun e he d hd hh => ?_, fun e he => ?_⟩
 ·obtain ⟨h1, h2⟩ := mem_cut.1 he
  rcases (has_join ha.val hb.val hl _ _).1 h2 with h2|h2
  ·exact mem_cut.2 ⟨hd, (has_join ha.val hb.val hl _ _).2 (.inl (mem_cut.1 (ha.cls e (mem_cut.2 ⟨h1, h2⟩) d hd hh)).2)⟩
  ·exact mem_cut.2 ⟨hd, (has_join ha.val hb.val hl _ _).2 (.inr (mem_cut.1 (hb.cls e (mem_cut.2 ⟨h1, h2⟩) d hd hh)).2)⟩
 ·obtain ⟨h1, h2⟩ := mem_cut.1 he
  have hp := (hc.2.2.1 e h1).2
  rcases (has_join ha.val hb.val hl _ _).1 h2 with h2|h2
  ·exact ins_trans (ha.sub e (mem_cut.2 ⟨h1, h2⟩)) i1 (by rw [hp, ha.len])
  ·exact ins_trans (hb.sub e (mem_cut.2 ⟨h1, h2⟩)) i2 (by rw [hp, hb.len])
theorem EvK.join {l : List EvS} {ac bc : List Int} (hl : ac.length = bc.length) (ha : EvK l ac) (hb : EvK l bc) : EvK l (joinC ac bc) := fun i x hx h1 => by
 obtain ⟨p, q, hp, hq, rfl⟩ := (zipC_at hl).1 hx
 by_cases h9 : q ≤ p
 ·rw [show max p q = p by omega] at h1 ⊢
  exact ha i p hp h1
 ·rw [show max p q = q by omega] at h1 ⊢
  exact hb i q hq h1
theorem part_ext {l : List EvS} {k : List Int} (hc : ClosedE l) (hk : Part l k) : ∃ S, ExtO l S ∧ S.Perm (cutL l k) := by
 by_cases h : cutL l k = []
 ·exact ⟨[], ExtO.nil l, by rw [h]⟩
 ·obtain ⟨S, _, hS, hp⟩ := ext_nil_ok (part_closed hc hk h) [] (fun x hx => (nomatch hx))
  refine ⟨S, ⟨fun e he => (mem_cut.1 (hS.sub e he)).1, fun i e he => ⟨(hS.nxt i e he).1, fun d hd hh => (hS.nxt i e he).2 d (hk.cls e (hS.sub e (List.mem_of_getElem? he)) d hd hh) hh⟩⟩, hp⟩
theorem part_cnt {l X : List EvS} {k : List Int} (hc : ClosedE l) (hk : Part l k) (he : EvK l k) (hX : X.Perm (cutL l k)) : clkE (n0 l) X = k ∧ sumC k = (X.length : Nat) := by
 obtain ⟨S, hS, hp⟩ := part_ext hc hk
 have h1 := part_clk hc hk he hX
 have h2 := part_clk hc hk he hp
 refine ⟨h1, ?_⟩
 have h3 := sum_cnt hc hS
 rw [h2] at h3
 rw [h3, hp.length_eq, hX.length_eq]
end Go.Proofs.YtajenkpjcbaadaaGreat
namespace Go.Proofs.YtajenkpjcbaadaaGreat
open Go Go.CF
set_option maxRecDepth 20000
theorem full_cov {m : ModS} {ld : List Int} {l : List EvS} {p : PrS} (D : List EvS) : Covers p.s.evs D p := fun _ h1 _ => h1
theorem held_run {m : ModS} {ld : List Int} {l : List EvS} {p q : PrS} (hs : SuitS m ld l) (hp : InvP m ld l p.s.evs p) (hq : InvP m ld l q.s.evs q) (most : Int) (hmo : 1 ≤ most ∧ most ≤ 1024) :
  ∃ R S p' q' Xa Xb, RecK m (n0 l) 200 most p q R S p' q' ∧ R ≤ 1000 ∧ S ≤ 1000 ∧ RecR m ld l p.s.evs q.s.evs p q Xa Xb p' q' := by
 have hl60 := hs.e.2.1.1
 have h1 : unk l p.s.evs p ≤ l.length := List.length_filter_le _ _
 have h2 : unk l q.s.evs q ≤ l.length := List.length_filter_le _ _
 obtain ⟨R, S, p', q', Xa, Xb, r1, r2, r3, r4⟩ := rec_ex hs most hmo _ p.s.evs q.s.evs p q (Nat.le_refl _) hp hq (full_cov (m := m) (ld := ld) (l := l) _) (full_cov (m := m) (ld := ld) (l := l) _)
 exact ⟨R, S, p', q', Xa, Xb, r1, by omega, by omega, r4⟩
end Go.Proofs.YtajenkpjcbaadaaGreat
namespace Go.Proofs.YtajenkpjcbaadaaGreat
open Go Go.CF
set_option maxRecDepth 20000
structure GotE (m : ModS) (ld : List Int) (l : List EvS) (k : List Int) (p : PrS) : Prop where
 inv : InvP m ld l p.s.evs p
 nil : p.H = []
 mem : ∀ e, e ∈ p.s.evs ↔ e ∈ cutL l k
theorem got_part {m : ModS} {ld : List Int} {l l' : List EvS} {k : List Int} (hs : SuitS m ld l) (hk : Part l k) (hl' : l'.Perm (cutL l k)) :
  ∃ X p', takeF m l' (newP m (n0 l) ld) = (0, p', X) ∧ X.length = l'.length ∧ GotE m ld l k p' := by
 have hc := hs.e.2.2.1
 obtain ⟨X, p', h1, h2⟩ := takeF_inv (l' := l') hs (fun e he => (mem_cut.1 (hl'.mem_iff.1 he)).1) (newP_inv hs)
 obtain ⟨S, hS, hp⟩ := part_ext hc hk
 obtain ⟨t1, t2, t3⟩ := tak_all (S := S) hs rfl h2 (by rw [List.nil_append];exact hS) fun e => by rw [hp.mem_iff, hl'.mem_iff]
 have he : p'.s.evs = X := by rw [h2.evs];rfl
 refine ⟨X, p', h1, by rw [t2, hp.length_eq, hl'.length_eq], ⟨?_, t3, fun e => by rw [he, t1, hl'.mem_iff]⟩⟩
 have := h2.inv
 rw [List.nil_append] at this
 rw [he];exact this
theorem GotE.perm {m : ModS} {ld : List Int} {l : List EvS} {k : List Int} {p : PrS} (hs : SuitS m ld l) (h : GotE m ld l k p) : p.s.evs.Perm (cutL l k) :=
 (List.perm_ext_iff_of_nodup (extO_nodup h.inv.buf.ext) ((uniq_nodupE hs.e.2.2.1.2.1).filter _)).2 h.mem
theorem GotE.clk {m : ModS} {ld : List Int} {l : List EvS} {k : List Int} {p : PrS} (hs : SuitS m ld l) (hk : Part l k) (he : EvK l k) (h : GotE m ld l k p) : p.s.now.clock = k ∧ sumC k = (p.s.evs.length : Nat) := by
 obtain ⟨h1, h2⟩ := part_cnt hs.e.2.2.1 hk he (h.perm hs)
 exact ⟨by rw [h.inv.sto.clock, h1], h2⟩
theorem off_len {A B U : List EvS} (ha : A.Nodup) (hb : B.Nodup) (hu : U.Nodup) (h : ∀ e, e ∈ U ↔ e ∈ A ∨ e ∈ B) : (offL A B).length + A.length = U.length := by
 have hp : (A ++ offL A B).Perm U := by
  refine (List.perm_ext_iff_of_nodup (List.nodup_append.2 ⟨ha, hb.filter _, fun x hx y hy hxy => ?_⟩) hu).2 fun e => ?_
  ·subst hxy;exact (off_mem.1 hy).2 hx
  ·show e ∈ A ++ offL A B ↔ e ∈ U
   rw [List.mem_append, off_mem, h]
   constructor
   ·rintro (h9|h9)
    ·exact .inl h9
    ·exact .inr h9.1
   ·rintro (h9|h9)
    ·exact .inl h9
    ·by_cases hA : e ∈ A
     ·exact .inl hA
     ·exact .inr ⟨h9, hA⟩
 have := hp.length_eq
 rw [List.length_append] at this
 omega
theorem GotE.free {m : ModS} {ld : List Int} {l : List EvS} {ac bc : List Int} {p q : PrS} (hp : GotE m ld l ac p) (hq : GotE m ld l bc q) : Free m ld l p.s.evs q.s.evs p q := ⟨hp.inv, hq.inv, hp.nil, hq.nil, full_cov (m := m) (ld := ld) (l := l) _, full_cov (m := m) (ld := ld) (l := l) _⟩
structure RecE (m : ModS) (ld : List Int) (l : List EvS) (ac bc : List Int) (most : Int) (p q : PrS) (R S : Nat) (p' q' : PrS) : Prop where
 run : RecK m (n0 l) 200 most p q R S p' q'
 rd : 1 ≤ R ∧ R = 1 + (max (sumC (joinC ac bc) - sumC ac).toNat (sumC (joinC ac bc) - sumC bc).toNat + most.toNat - 1) / most.toNat
 mv : (S : Int) = (sumC (joinC ac bc) - sumC ac) + (sumC (joinC ac bc) - sumC bc)
 small : R ≤ 1000 ∧ S ≤ 1000
 a : GotE m ld l (joinC ac bc) p'
 b : GotE m ld l (joinC ac bc) q'
 nn : 0 ≤ sumC (joinC ac bc) - sumC ac ∧ 0 ≤ sumC (joinC ac bc) - sumC bc
theorem got_rec {m : ModS} {ld : List Int} {l : List EvS} {ac bc : List Int} {p q : PrS} (hs : SuitS m ld l) (ha : Part l ac) (hb : Part l bc) (ea : EvK l ac) (eb : EvK l bc) (hp : GotE m ld l ac p) (hq : GotE m ld l bc q) (most : Int) (hmo : 1 ≤ most ∧ most ≤ 1024) :
  ∃ R S p' q', RecE m ld l ac bc most p q R S p' q' := by
 have hc := hs.e.2.2.1
 obtain ⟨R, S, p', q', Xa, Xb, r1, r2, r3, r4⟩ := held_run hs hp.inv hq.inv most hmo
 obtain ⟨c1, c2, c3, c4⟩ := rec_count hs most hmo r1 _ _ (hp.free hq)
 have hl : ac.length = bc.length := ha.len.trans hb.len.symm
 have hu : Part l (joinC ac bc) := Part.join hc ha hb
 have eu : EvK l (joinC ac bc) := EvK.join hl ea eb
 have hcu : ∀ e, e ∈ cutL l (joinC ac bc) ↔ e ∈ p.s.evs ∨ e ∈ q.s.evs := fun e => by
  have := cut_join ha hb e
  rw [ordE_mem] at this
  rw [this, hp.mem, hq.mem]
 have hna := extO_nodup hp.inv.buf.ext
 have hnb := extO_nodup hq.inv.buf.ext
 have hnu : (cutL l (joinC ac bc)).Nodup := (uniq_nodupE hc.2.1).filter _
 have o1 := off_len hna hnb hnu hcu
 have o2 := off_len hnb hna hnu fun e => by rw [hcu, or_comm]
 have s1 := (hp.clk hs ha ea).2
 have s2 := (hq.clk hs hb eb).2
 have s3 := (part_cnt hc hu eu (List.Perm.refl _)).2
 have x1 : (sumC (joinC ac bc) - sumC ac).toNat = (offL p.s.evs q.s.evs).length := by omega
 have x2 : (sumC (joinC ac bc) - sumC bc).toNat = (offL q.s.evs p.s.evs).length := by omega
 have memA : ∀ e, e ∈ p.s.evs ++ Xa ↔ e ∈ cutL l (joinC ac bc) := fun e => by
  rw [hcu]
  constructor
  ·intro h9
   rcases r4.new e h9 with h8|h8|h8|h8
   ·exact .inl h8
   ·exact .inr h8
   ·rw [heldE, hp.nil] at h8;cases h8
   ·rw [heldE, hq.nil] at h8;cases h8
  ·rintro (h9|h9)
   ·exact List.mem_append_left _ h9
   ·exact (r4.same e).2 (List.mem_append_left _ h9)
 refine ⟨R, S, p', q', r1, ⟨by rw [c1];exact Nat.le_add_right _ _, by rw [x1, x2];exact c1⟩, by omega, ⟨r2, r3⟩, ⟨by rw [r4.ea];exact r4.ia, c3, fun e => by rw [r4.ea];exact memA e⟩, ⟨by rw [r4.eb];exact r4.ib, c4, fun e => by rw [r4.eb, ← r4.same];exact memA e⟩, by omega, by omega⟩
theorem got_again {m : ModS} {ld : List Int} {l : List EvS} {k : List Int} {p q : PrS} (hs : SuitS m ld l) (hp : GotE m ld l k p) (hq : GotE m ld l k q) (most : Int) (hmo : 1 ≤ most ∧ most ≤ 1024) : ∃ p' q', RecK m (n0 l) 200 most p q 1 0 p' q' := by
 obtain ⟨R, S, p', q', Xa, Xb, r1, r2, r3, r4⟩ := held_run hs hp.inv hq.inv most hmo
 obtain ⟨c1, c2, c3, c4⟩ := rec_count hs most hmo r1 _ _ (hp.free hq)
 have z : ∀ {A B : List EvS}, (∀ e, e ∈ B → e ∈ A) → offL A B = [] := fun {A B} h => by
  unfold offL
  rw [List.filter_eq_nil_iff]
  intro e he h9
  exact of_decide_eq_true h9 (h e he)
 rw [z (fun e he => (hp.mem e).2 ((hq.mem e).1 he)), z (fun e he => (hq.mem e).2 ((hp.mem e).1 he))] at c1 c2
 have hR : R = 1 := by
  rw [c1, show (max ([] : List EvS).length ([] : List EvS).length + most.toNat - 1) / most.toNat = 0 from Nat.div_eq_of_lt (by simp;omega)]
 have hS : S = 0 := c2
 subst hR;subst hS
 exact ⟨p', q', r1⟩
end Go.Proofs.YtajenkpjcbaadaaGreat
namespace Go.Proofs.YtajenkpjcbaadaaGreat
open Go Go.CF
set_option maxRecDepth 20000
theorem bef_p (a b : EvS) : CallP Tryz.prog 153 [evA' a, evA' b] (bl (decide (HasC b.past a.rep a.num))) := by
 have g1 := name_p a
 have g2 := hasC_p b.past a.rep a.num
 refine CallA.of pg ord153 Tryz.func153 rfl Tryz.ntmps153 Tryz.results153 rfl fun h0 G0 O0 => ?_
 repeat' (first|refine Sp.h ?_|refine Lk.r rfl ?_|refine Rf.mk rfl ?_|refine OpK.r rfl ?_|refine All.mk fun _=>?_|refine xT ?_|refine Ch.l ⟨rfl, rfl⟩ ?_|refine xN ?_|refine xD ?_|(apply Cl.p (g1);focus (repeat' constructor);done)|(apply Cl.p (g2);focus (repeat' constructor);done))
 exact Fin.p rfl rfl
theorem seen1_p (k : Int) (w x : WrS) : CallP Tryz.prog 152 [evW' x, .ad [it k] 0, .ad (wrC w) 0] (bl (decide (x.2.1 = k ∧ HasC x.1.past w.1.rep w.1.num))) := by
 have h := bef_p w.1 x.1
 obtain ⟨e, u1, u2, u3⟩ := w
 obtain ⟨f, v1, v2, v3⟩ := x
 simp only at h ⊢
 refine CallA.of pg ord152 Tryz.func152 rfl Tryz.ntmps152 Tryz.results152 rfl fun h0 G0 O0 => ?_
 by_cases hk : v1 = k
 ·repeat' (first|refine Sp.h ?_|refine Lk.r rfl ?_|refine Rf.mk rfl ?_|refine xA ?_|refine All.mk fun _=>?_|refine xT ?_|refine Ch.r ?_|refine xN ?_|(apply Cl.p (h);focus repeat' constructor))
  refine Fin.p rfl (vb (decide_eq_decide.2 ?_))
  simp [hk]
 ·repeat' (first|refine Sp.h ?_|refine Lk.r rfl ?_|refine Rf.mk rfl ?_|refine xB ?_|refine All.mk fun _=>?_|refine xT ?_|refine xN ?_|(apply Cl.p (h);(focus repeat' (first|fail))))
  refine Fin.p rfl (vb ?_)
  simp [hk]
theorem seen_p (w : WrS) (L : List WrS) (k : Int) : CallP Tryz.prog 115 [evW' w, wrs L, it k] (bl (decide (SeenW w.1 L k))) := by
 have hc := containsW_p (seen1_p k w) rfl L
 refine CallA.of pg ord115 Tryz.func115 rfl Tryz.ntmps115 Tryz.results115 rfl fun h0 G0 O0 => ?_
 (repeat' (first|(show CA _ _ (Code.region 1 _ _) _ _;apply Stopped.out)|refine Sp.h ?_|refine Lk.r rfl ?_|refine Rf.mk rfl ?_|refine All.mk fun _=>?_|fail));any_goals apply Stopped.mk
 refine CA.freezeB 3 rfl (by repeat constructor) ?_
 refine CA.freezeB 5 rfl (by repeat constructor) ?_
 repeat' (first|refine Sp.h ?_|refine Lk.r rfl ?_|refine Rf.mk rfl ?_|refine xN ?_|(apply Cl.p (hc);focus repeat' constructor))
 refine Fin.p rfl (vb (decide_eq_decide.2 ?_))
 rw [idxN_lt]
 simp [SeenW]
theorem ebit_a (b : Bool) : CallA Tryz.prog 112 [bl b] [] fun r own => ∃ v, r = .ow v ∧ own = [arrR v 3 1 [[it (if b = true then 1 else 0)]] id] := by
 refine CallA.of pg ord112 Tryz.func112 rfl Tryz.ntmps112 Tryz.results112 rfl fun h0 G0 O0 => ?_
 cases b
 ·repeat' (first|refine Sp.h ?_|refine Lk.r rfl ?_|refine Rf.mk rfl ?_|refine All.mk fun _=>?_|(apply Fk.r;focus repeat' first|infer_instance|constructor)|refine xN ?_|refine Rf.mk ⟨rfl, rfl, rfl⟩ ?_|fail)
  exact ⟨_, _, .one (.same (.z)), _, rfl, rfl⟩
 ·repeat' (first|refine Sp.h ?_|refine Lk.r rfl ?_|refine Rf.mk rfl ?_|refine All.mk fun _=>?_|(apply Fk.r;focus repeat' first|infer_instance|constructor)|refine xN ?_|refine Rf.mk ⟨rfl, rfl, rfl⟩ ?_|fail)
  exact ⟨_, _, .one (.same (.z)), _, rfl, rfl⟩
theorem ebit_p (b : Bool) : CallP Tryz.prog 112 [bl b] (ints [if b = true then 1 else 0]) :=
 CallA.fx (ebit_a b) fun _ _ ⟨_, e1, e2⟩ => by
  subst e1;subst e2
  exact .sl .here (Nat.le_of_ble_eq_true rfl) (.agg (.le (ALe.refl _) .nil) .nil) .nil
theorem notk_p (k : Int) (w : WrS) : CallP Tryz.prog 110 [evW' w, .ad [it k] 0] (bl (!decide (w.2.1 = k))) := by
 obtain ⟨e, u1, u2, u3⟩ := w
 simp only
 refine CallA.of pg ord110 Tryz.func110 rfl Tryz.ntmps110 Tryz.results110 rfl fun h0 G0 O0 => ?_
 repeat' (first|refine Sp.h ?_|refine Lk.r rfl ?_|refine Rf.mk rfl ?_|refine All.mk fun _=>?_|refine xT ?_|refine xN ?_|fail)
 refine Fin.p rfl (vb ?_)
 simp
def ofW (L : List WrS) (k : Int) : List WrS := L.filter fun w => decide (w.2.1 = k)
theorem of_a (L : List WrS) (k : Int) (hl : L.length ≤ 1000000) : CallO Tryz.prog 107 [wrs L, it k] 177 16 (ofW L k) wrC := by
 have h1 := cloneW_o L (by omega)
 refine CallA.of pg ord107 Tryz.func107 rfl Tryz.ntmps107 Tryz.results107 rfl fun h0 G0 O0 => ?_
 (repeat' (first|(show CA _ _ (Code.region 1 _ _) _ _;apply Stopped.out)|refine Sp.h ?_|refine Lk.r rfl ?_|refine Rf.mk rfl ?_|refine All.mk fun _=>?_|fail));any_goals apply Stopped.mk
 refine CA.freezeB 3 rfl (by repeat constructor) ?_
 repeat' (first|refine Sp.h ?_|refine Lk.r rfl ?_|refine Rf.mk rfl ?_|fail)
 (refine Cl.use (h1) (by repeat' (first|exact Lend.nil|apply Lend.keep|fail)) .nil rfl ?_;rintro _ _ ⟨_, rfl, rfl⟩)
 rename_i v
 repeat' (first|refine Sp.h ?_|refine Lk.r rfl ?_|refine Rf.mk rfl ?_|fail)
 have h2 := deleteW_a (notk_p k) rfl v L hl
 refine xW (h2) ?_
 rintro _ _ ⟨w', rfl, rfl⟩
 repeat' (first|refine Sp.h ?_|refine Lk.r rfl ?_|refine xN ?_|fail)
 have he : (L.filter fun x => !(!decide (x.2.1 = k))) = ofW L k := by simp [ofW]
 rw [he]
 exact ⟨_, _, .one (.same (.z)), _, rfl, rfl⟩
theorem of_p (L : List WrS) (k : Int) (hl : L.length ≤ 1000000) : CallP Tryz.prog 107 [wrs L, it k] (wrs (ofW L k)) :=
 CallA.fz (Nat.le_trans (List.length_filter_le _ _) (by omega)) (of_a L k hl)
end Go.Proofs.YtajenkpjcbaadaaGreat
namespace Go.Proofs.YtajenkpjcbaadaaGreat
open Go Go.CF
set_option maxRecDepth 20000
def cmpT (a b : EvS) : Int := orI [cmpI a.time b.time, cmpI a.rep b.rep]
theorem cmpT_p (a b : WrS) : CallP Tryz.prog 120 [evW' a, evW' b] (it (cmpT a.1 b.1)) := by
 obtain ⟨e, u1, u2, u3⟩ := a
 obtain ⟨f, v1, v2, v3⟩ := b
 have g1 := compareI_p e.time f.time
 have g2 := compareI_p e.rep f.rep
 have h := orI_p [cmpI e.time f.time, cmpI e.rep f.rep]
 refine CallA.of pg ord120 Tryz.func120 rfl Tryz.ntmps120 Tryz.results120 rfl fun h0 G0 O0 => ?_
 repeat' (first|refine Sp.h ?_|refine Lk.r rfl ?_|refine Rf.mk rfl ?_|refine OpK.r rfl ?_|refine All.mk fun _=>?_|refine xT ?_|(apply Fk.r;focus repeat' first|infer_instance|constructor)|refine Rf.mk ⟨rfl, rfl, rfl⟩ ?_|refine xD ?_|(apply Cl.p (g1);focus (repeat' constructor);done)|(apply Cl.p (g2);focus (repeat' constructor);done))
 (apply Cl.lend (h);(focus repeat' (first|exact Lend.nil|(apply Lend.lendm;(focus repeat constructor);(focus rfl);(focus first|omega|decide|(simp;omega)|exact Nat.le_of_ble_eq_true rfl))|fail)))
 repeat' (first|refine Sp.h ?_|refine Lk.r rfl ?_|refine OpK.r rfl ?_|refine xN ?_|fail)
 exact Fin.p rfl rfl
def maxW (a : WrS) (l : List WrS) : WrS := l.foldl (fun m x => if 0 < cmpT x.1 m.1 then x else m) a
abbrev zW : List AV := [it 0, it 0, it 0, .val (.slice none 0 0), it 0, it 0, it 0, it 0, it 0, it 0, it 0, it 0, it 0, it 0, it 0, it 0]
set_option maxHeartbeats 2000000 in
theorem max_p (L : List WrS) (a : WrS) (h0 : L[0]? = some a) : CallP Tryz.prog 119 [wrs L, .fn 120 []] (evW' (maxW a (L.drop 1))) := by
 have hlen := (List.getElem?_eq_some_iff.1 h0).1
 refine CallA.of pg ord119 Tryz.func119 rfl Tryz.ntmps119 Tryz.results119 rfl fun h0 G0 O0 => ?_
 repeat' (first|refine Sp.h ?_|refine Lk.r rfl ?_|refine Rf.mk rfl ?_|refine xB ?_|refine Im.mk fun _=>?_|refine All.mk fun _=>?_|refine xT ?_|refine xI ?_|refine Ch.l ⟨rfl, rfl⟩ ?_|(apply SetAsk.r;focus repeat' constructor)|refine xN ?_|fail)
 rename_i b4 hl9 b5
 refine CA.loop (fun x : Nat × WrS => ⟨[(0, wrs L), (1, .fn 120 []), (4, pm b4), (5, pm b5), (6, it (x.1 : Nat))], [blkR b5 177 (wrC x.2), blkR b4 177 zW]⟩)
  (fun x => 1 ≤ x.1 ∧ x.1 ≤ L.length ∧ x.2 = maxW a ((L.take x.1).drop 1)) (fun x => L.length - x.1) (1, a) xE ⟨Nat.le_refl _, hlen, ?_⟩ ?_
 ·have : ((L.take 1).drop 1) = [] := by simp
  show a = _
  rw [this];rfl
 rintro ⟨i, w⟩ ⟨hi1, hi, hw⟩
 simp only at hi1 hi hw
 by_cases hin : i < L.length
 ·obtain ⟨x, hx⟩ := get_of hin
  have hc := cmpT_p x w
  have hs : maxW a ((L.take (i + 1)).drop 1) = if 0 < cmpT x.1 w.1 then x else w := by
   rw [List.take_add_one, hx, List.drop_append_of_le_length (by simp;omega)]
   simp only [maxW, Option.toList_some, List.foldl_append, List.foldl_cons, List.foldl_nil] at hw ⊢
   rw [← hw]
  repeat' (first|refine Sp.h ?_|refine Lk.r rfl ?_|refine Rf.mk rfl ?_|refine xA ?_|(refine Bd.mk ?_ ?_ <;> intro _)|refine OpK.r rfl ?_|refine Im.mk fun _=>?_|refine xT ?_|refine xI ?_|refine Ch.l ⟨rfl, rfl⟩ ?_|(apply SetAsk.r;focus repeat' constructor)|refine xD ?_|refine xO ?_|(apply Cl.p (hc);focus (repeat' constructor);done))
  ·rename_i h9
   rw [if_pos h9] at hs
   exact PA.lp (i + 1, x) xE ⟨⟨by simp only;omega, hin, hs.symm⟩, by simp only;omega⟩
  ·rename_i h9
   rw [if_neg h9] at hs
   exact PA.lp (i + 1, w) xE ⟨⟨by simp only;omega, hin, hs.symm⟩, by simp only;omega⟩
 ·have hie : i = L.length := by omega
  subst hie
  rw [List.take_length] at hw
  subst hw
  repeat' (first|refine Sp.h ?_|refine Lk.r rfl ?_|refine Rf.mk rfl ?_|refine xB ?_|refine Im.mk fun _=>?_|refine xT ?_|refine Ch.l ⟨rfl, rfl⟩ ?_|(apply SetAsk.r;focus repeat' constructor)|refine xN ?_|fail)
  exact Fin.p rfl rfl
theorem live1_p (L : List WrS) (w : WrS) : CallP Tryz.prog 114 [evW' w, .ad [wrs L] 0] (bl (!decide (SeenW w.1 L 1))) := by
 have h := seen_p w L 1
 refine CallA.of pg ord114 Tryz.func114 rfl Tryz.ntmps114 Tryz.results114 rfl fun h0 G0 O0 => ?_
 repeat' (first|refine Sp.h ?_|refine Lk.r rfl ?_|refine Rf.mk rfl ?_|refine All.mk fun _=>?_|refine xT ?_|refine Ch.l ⟨rfl, rfl⟩ ?_|refine xN ?_|(apply Cl.p (h);focus repeat' constructor))
 exact Fin.p rfl (vb (by simp))
theorem live0_p (L : List WrS) (w : WrS) : CallP Tryz.prog 117 [evW' w, .ad [wrs L] 0] (bl (!decide (SeenW w.1 L 0))) := by
 have h := seen_p w L 0
 refine CallA.of pg ord117 Tryz.func117 rfl Tryz.ntmps117 Tryz.results117 rfl fun h0 G0 O0 => ?_
 repeat' (first|refine Sp.h ?_|refine Lk.r rfl ?_|refine Rf.mk rfl ?_|refine All.mk fun _=>?_|refine xT ?_|refine Ch.l ⟨rfl, rfl⟩ ?_|refine xN ?_|(apply Cl.p (h);focus repeat' constructor))
 exact Fin.p rfl (vb (by simp))
abbrev ofA : AV := .ad [.fn 107 []] 0
theorem vals2_p (L : List WrS) (hl : L.length ≤ 1000000) : CallP Tryz.prog 111 [wrs L, ofA] (ints [if decide (Live0 L) = true then 1 else 0]) := by
 have h1 := of_p L 0 hl
 have h2 : CallP Tryz.prog 113 [wrs (ofW L 0), .fn 114 [.ad [wrs L] 0]] (bl (decide (Live0 L))) := by
  have h := containsW_p (live1_p L) rfl (ofW L 0)
  rwa [show decide (idxN (fun w => !decide (SeenW w.1 L 1)) (ofW L 0) < (ofW L 0).length) = decide (Live0 L) from decide_eq_decide.2 (by rw [idxN_lt];simp [Live0, ofW, and_assoc])] at h
 have h3 := ebit_p (decide (Live0 L))
 refine CallA.of pg ord111 Tryz.func111 rfl Tryz.ntmps111 Tryz.results111 rfl fun h0 G0 O0 => ?_
 (repeat' (first|(show CA _ _ (Code.region 1 _ _) _ _;apply Stopped.out)|refine Sp.h ?_|refine Lk.r rfl ?_|refine Rf.mk rfl ?_|refine All.mk fun _=>?_|fail));any_goals apply Stopped.mk
 refine CA.freezeB 2 rfl (by repeat constructor) ?_
 repeat' (first|refine Sp.h ?_|refine Lk.r rfl ?_|refine Rf.mk rfl ?_|refine xN ?_|(apply Cl.p (h1);focus (repeat' constructor);done)|(apply Cl.p (h2);focus (repeat' constructor);done)|(apply Cl.p (h3);focus (repeat' constructor);done))
 exact Fin.p rfl rfl
theorem vals3_p (L : List WrS) (hl : L.length ≤ 1000000) : CallP Tryz.prog 116 [wrs L, ofA] (ints [if decide (In1 L) = true then 1 else 0]) := by
 have k0 := of_p L 0 hl
 have k1 := of_p L 1 hl
 have k2 := containsW_p (live0_p L) rfl (ofW L 1)
 have e0 : (0 < (ofW L 0).length) ↔ ∃ w ∈ L, w.2.1 = 0 := by rw [List.length_pos_iff_exists_mem];simp [ofW]
 have e1 : idxN (fun w => !decide (SeenW w.1 L 0)) (ofW L 1) < (ofW L 1).length ↔ ∃ w ∈ L, w.2.1 = 1 ∧ ¬ SeenW w.1 L 0 := by rw [idxN_lt];simp [ofW, and_assoc]
 have k3 := ebit_p (decide (In1 L))
 by_cases hp : 0 < (ofW L 0).length
 ·rw [show decide (In1 L) = decide (¬ idxN (fun w => !decide (SeenW w.1 L 0)) (ofW L 1) < (ofW L 1).length) by
   exact decide_eq_decide.2 (by rw [e1];exact ⟨fun h => h.2, fun h => ⟨e0.1 hp, h⟩⟩)] at k3 ⊢
  refine CallA.of pg ord116 Tryz.func116 rfl Tryz.ntmps116 Tryz.results116 rfl fun h0 G0 O0 => ?_
  (repeat' (first|(show CA _ _ (Code.region 1 _ _) _ _;apply Stopped.out)|refine Sp.h ?_|refine Lk.r rfl ?_|refine Rf.mk rfl ?_|refine All.mk fun _=>?_|fail));any_goals apply Stopped.mk
  refine CA.freezeB 2 rfl (by repeat constructor) ?_
  repeat' (first|refine Sp.h ?_|refine Lk.r rfl ?_|refine Rf.mk rfl ?_|refine xA ?_|refine Im.mk fun _=>?_|refine xN ?_|(apply Cl.p (k0);focus (repeat' constructor);done)|(apply Cl.p (k1);focus (repeat' constructor);done)|(apply Cl.p (k2);focus (repeat' constructor);done)|(apply Cl.p (k3);focus (repeat' constructor);done))
  all_goals exact Fin.p rfl rfl
 ·rw [show decide (In1 L) = false from decide_eq_false fun h => hp (e0.2 h.1)] at k3 ⊢
  refine CallA.of pg ord116 Tryz.func116 rfl Tryz.ntmps116 Tryz.results116 rfl fun h0 G0 O0 => ?_
  (repeat' (first|(show CA _ _ (Code.region 1 _ _) _ _;apply Stopped.out)|refine Sp.h ?_|refine Lk.r rfl ?_|refine Rf.mk rfl ?_|refine All.mk fun _=>?_|fail));any_goals apply Stopped.mk
  refine CA.freezeB 2 rfl (by repeat constructor) ?_
  repeat' (first|refine Sp.h ?_|refine Lk.r rfl ?_|refine Rf.mk rfl ?_|refine xB ?_|refine Im.mk fun _=>?_|refine xN ?_|(apply Cl.p (k0);focus (repeat' constructor);done)|(apply Cl.p (k1);focus (repeat' constructor);done)|(apply Cl.p (k2);focus (repeat' constructor);done)|(apply Cl.p (k3);focus (repeat' constructor);done))
  all_goals exact Fin.p rfl rfl
def val4F (x : Int) (L : List WrS) : Int := match ofW L 2 with
 | [] => x
 | a :: l => (maxW a l).2.2.2
abbrev OneO (y : Int) : AV → List Res → Prop := fun r own => ∃ v, r = .ow v ∧ own = [arrR v 3 1 [[it y]] id]
theorem oneO_p {f : FuncId} {xs : List AV} {y : Int} (h : CallA Tryz.prog f xs [] (OneO y)) : CallP Tryz.prog f xs (ints [y]) :=
 CallA.fx h fun _ _ ⟨_, e1, e2⟩ => by
  subst e1;subst e2
  exact .sl .here (Nat.le_of_ble_eq_true rfl) (.agg (.le (ALe.refl _) .nil) .nil) .nil
theorem vals4_p (L : List WrS) (x : Int) (hl : L.length ≤ 1000000) : CallP Tryz.prog 118 [wrs L, ofA, .ad [it x] 0] (ints [val4F x L]) := by
 have k0 := of_p L 2 hl
 refine oneO_p ?_
 cases ho : ofW L 2 with
 | nil =>
  rw [ho] at k0
  have hv : val4F x L = x := by simp only [val4F, ho]
  rw [hv]
  have hz : (([] : List WrS).length : Int) = 0 := rfl
  refine CallA.of pg ord118 Tryz.func118 rfl Tryz.ntmps118 Tryz.results118 rfl fun h0 G0 O0 => ?_
  repeat' (first|refine Sp.h ?_|refine Lk.r rfl ?_|refine Rf.mk rfl ?_|refine xA ?_|refine Im.mk fun _=>?_|refine All.mk fun _=>?_|(apply Fk.r;focus repeat' first|infer_instance|constructor)|refine xN ?_|refine Rf.mk ⟨rfl, rfl, rfl⟩ ?_|(apply Cl.p (k0);focus (repeat' constructor);done))
  exact ⟨_, _, .one (.same (.z)), _, rfl, rfl⟩
 | cons a l =>
  rw [ho] at k0
  have hv : val4F x L = (maxW a l).2.2.2 := by simp only [val4F, ho]
  have k1 : CallP Tryz.prog 119 [wrs (a :: l), .fn 120 []] (evW' (maxW a l)) := max_p (a :: l) a rfl
  rw [hv]
  have hz : ¬ ((a :: l).length : Int) = 0 := by simp;omega
  refine CallA.of pg ord118 Tryz.func118 rfl Tryz.ntmps118 Tryz.results118 rfl fun h0 G0 O0 => ?_
  repeat' (first|refine Sp.h ?_|refine Lk.r rfl ?_|refine Rf.mk rfl ?_|refine xB ?_|refine Im.mk fun _=>?_|refine All.mk fun _=>?_|refine xT ?_|(apply SetAsk.r;focus repeat' constructor)|(apply Fk.r;focus repeat' first|infer_instance|constructor)|refine xN ?_|refine Rf.mk ⟨rfl, rfl, rfl⟩ ?_|(apply Cl.p (k0);focus (repeat' constructor);done)|(apply Cl.p (k1);focus (repeat' constructor);done))
  exact ⟨_, _, .one (.same (.z)), _, rfl, rfl⟩
set_option maxHeartbeats 2000000 in
theorem vals5_p (L : List WrS) (x : Int) (hl : L.length ≤ 100000) : CallP Tryz.prog 121 [wrs L, ofA, .ad [it x] 0] (ints (if vals5 L = [] then [x] else srtD (vals5 L))) := by
 have k0 := of_p L 2 (by omega)
 have hof : (ofW L 2).length ≤ L.length := List.length_filter_le _ _
 have e5 : vals5 L = ((ofW L 2).filter fun w => !decide (SeenW w.1 L 2)).map (·.2.2.2) := by
  unfold vals5 ofW
  rw [List.filter_filter]
  congr 2
  funext w
  simp [Bool.and_comm]
 have hle : (vals5 L).length ≤ L.length := by rw [vals5, List.length_map];exact List.length_filter_le _ _
 have hle2 := srtD_len (vals5 L)
 have hlr : (if vals5 L = [] then [x] else srtD (vals5 L)).length ≤ 9223372036854775807 := by
  split
  ·simp
  ·omega
 refine CallA.fz (T := 3) hlr ?_
 refine CallA.of pg ord121 Tryz.func121 rfl Tryz.ntmps121 Tryz.results121 rfl fun h0 G0 O0 => ?_
 repeat' (first|refine Sp.h ?_|refine Lk.r rfl ?_|refine Rf.mk rfl ?_|refine Im.mk fun _=>?_|(apply Cl.p (k0);focus (repeat' constructor);done))
 refine CA.nilOwn 5 3 1 i1 rfl fun v0 => ?_
 refine CA.loop (fun x' : Nat × Value => ⟨[(0, wrs L), (2, .ad [it x] 0), (5, .ow x'.2), (10, wrs (ofW L 2)), (11, it ((ofW L 2).length : Nat)), (12, it (x'.1 : Nat))], [arrR x'.2 3 1 ((((ofW L 2).take x'.1).filter fun w => !decide (SeenW w.1 L 2)).map (·.2.2.2)) i1]⟩)
  (fun x' => x'.1 ≤ (ofW L 2).length) (fun x' => (ofW L 2).length - x'.1) (0, v0) xE (Nat.zero_le _) ?_
 rintro ⟨i, v⟩ hi
 simp only at hi
 simp only
 by_cases hin : i < (ofW L 2).length
 ·obtain ⟨w, hw⟩ := get_of hin
  have k1 := seen_p w L 2
  have hs := filter_succ (p := fun w : WrS => !decide (SeenW w.1 L 2)) hw
  have hln : (((ofW L 2).take i).filter fun w => !decide (SeenW w.1 L 2)).length ≤ 100000 := Nat.le_trans (List.length_filter_le _ _) (by simp;omega)
  by_cases hsn : SeenW w.1 L 2
  ·simp only [hsn, decide_true, Bool.not_true, Bool.false_eq_true, if_false, List.append_nil] at hs
   repeat' (first|refine Sp.h ?_|refine Lk.r rfl ?_|refine Rf.mk rfl ?_|refine xA ?_|refine All.mk fun _=>?_|refine xT ?_|refine xI ?_|refine Ch.l ⟨rfl, rfl⟩ ?_|(apply SetAsk.r;focus repeat' constructor)|refine xN ?_|refine xO ?_|(apply Cl.p (k1);focus (repeat' constructor);done))
   rw [← hs]
   exact PA.lp (i + 1, v) xE ⟨hin, by simp only;omega⟩
  ·rw [if_pos (by simp [hsn])] at hs
   obtain ⟨e, u1, u2, u3⟩ := w
   have hsu : ((((ofW L 2).take (i + 1)).filter fun w => !decide (SeenW w.1 L 2)).map (·.2.2.2)) = ((((ofW L 2).take i).filter fun w => !decide (SeenW w.1 L 2)).map (·.2.2.2)) ++ [u3] := by rw [hs, List.map_append];rfl
   repeat' (first|refine Sp.h ?_|refine Lk.r rfl ?_|refine Rf.mk rfl ?_|refine xA ?_|refine xB ?_|refine xP ?_|refine All.mk fun _=>?_|refine xU ?_|refine xT ?_|refine xI ?_|refine Ce.r ?_|refine Ch.l ⟨rfl, rfl⟩ ?_|(apply SetAsk.r;focus repeat' constructor)|(apply Fk.r;focus repeat' first|infer_instance|constructor)|refine xN ?_|refine Rf.mk ⟨rfl, rfl⟩ ?_|refine Rf.mk ⟨rfl, rfl, rfl⟩ ?_|(apply Mp.lit;(focus repeat (first|exact MpL.nil|(apply MpL.cons;(focus rfl))|(apply MpL.inv;(focus repeat constructor);(focus infer_instance)))))|refine xO ?_|(apply Cl.p (k1);focus (repeat' constructor);done))
   rw [← hsu]
   exact PA.lp (i + 1, _) xE ⟨hin, by simp only;omega⟩
 ·have hie : i = (ofW L 2).length := by omega
  subst hie
  rw [List.take_length, ← e5]
  have hso : ∀ w, _ := fun w => sortInt_a w 3 (vals5 L) (by omega)
  have hco : ∀ w, _ := fun w => compactI_a w (srtI (vals5 L)) (by rw [srtI_len];omega)
  by_cases hz : vals5 L = []
  ·rw [if_pos hz]
   have hz2 : ((vals5 L).length : Int) = 0 := by rw [hz];rfl
   (repeat' (first|(show CA _ _ Code.ret _ _;apply Stopped.out)|refine Sp.h ?_|refine Lk.r rfl ?_|refine Rf.mk rfl ?_|refine xA ?_|refine xB ?_|refine All.mk fun _=>?_|refine xU ?_|(apply Fk.r;focus repeat' first|infer_instance|constructor)|refine Rf.mk ⟨rfl, rfl, rfl⟩ ?_|fail));any_goals apply Stopped.mk
   apply CA.retype (m := [x]) (g := i1)
   focus (repeat constructor)
   focus rfl
   repeat' (first|refine Sp.h ?_|refine Lk.r rfl ?_|refine xN ?_|fail)
   exact ⟨_, _, .one (.same (.z)), _, rfl, rfl⟩
  ·rw [if_neg hz]
   have hz2 : ¬ ((vals5 L).length : Int) = 0 := by
    have : (vals5 L).length ≠ 0 := fun h => hz (List.eq_nil_of_length_eq_zero h)
    omega
   repeat' (first|refine Sp.h ?_|refine Lk.r rfl ?_|refine Rf.mk rfl ?_|refine xB ?_|refine xU ?_|fail)
   refine xW (hso _) ?_
   rintro _ _ ⟨rfl, rfl⟩
   repeat' (first|refine Sp.h ?_|refine Lk.r rfl ?_|refine Rf.mk rfl ?_|fail)
   refine xW (hco _) ?_
   rintro _ _ ⟨w2, rfl, rfl⟩
   repeat' (first|refine Sp.h ?_|refine Lk.r rfl ?_|refine xN ?_|fail)
   exact ⟨_, _, .one (.same (.z)), _, rfl, rfl⟩
end Go.Proofs.YtajenkpjcbaadaaGreat
namespace Go.Proofs.YtajenkpjcbaadaaGreat
open Go Go.CF
set_option maxRecDepth 20000
def fnW (p : FuncId × List AV) : AV := .fn p.1 p.2
abbrev kvsW (t : TblS) : List (List Int × (FuncId × List AV)) := [([2], (111, [ofA])), ([3], (116, [ofA])), ([4], (118, [ofA, .ad [it (iniT t)] 0])), ([5], (121, [ofA, .ad [it (iniT t)] 0]))]
set_option maxHeartbeats 1000000 in
theorem evalues_a (t : TblS) : CallA Tryz.prog 60 [.agg (tblC t)] [] fun r own => ∃ b, r = .val (.map (some b)) ∧ own = [mapR Tryz.prog b 3 (kvsW t) fnW] := by
 refine CallA.of pg ord60 Tryz.func60 rfl Tryz.ntmps60 Tryz.results60 rfl fun h0 G0 O0 => ?_
 (repeat' (first|(show CA _ _ (Code.region 2 _ _) _ _;apply Stopped.out)|refine Sp.h ?_|refine Lk.r rfl ?_|refine Rf.mk rfl ?_|refine All.mk fun _=>?_|refine xT ?_|refine xV ?_|refine xN ?_|fail));any_goals apply Stopped.mk
 refine CA.freezeB 3 rfl (by repeat constructor) ?_
 (repeat' (first|(show CA _ _ (Code.region 3 _ _) _ _;apply Stopped.out)|refine Sp.h ?_|refine Lk.r rfl ?_|refine Rf.mk rfl ?_|refine All.mk fun _=>?_|refine xT ?_|refine xV ?_|refine xN ?_|fail));any_goals apply Stopped.mk
 refine CA.freezeB 4 rfl (by repeat constructor) ?_
 repeat' (first|refine Sp.h ?_|refine Lk.r rfl ?_|refine Rf.mk rfl ?_|fail)
 refine MkM.r fnW ?_
 repeat' (first|refine Sp.h ?_|refine Lk.r rfl ?_|refine Rf.mk rfl ?_|refine All.mk fun _=>?_|(apply Kf.mk;(focus kernel_rfl))|refine xM ?_|fail)
 refine UpV.r (v := (111, [ofA])) rfl ?_
 repeat' (first|refine Sp.h ?_|refine Lk.r rfl ?_|refine Rf.mk rfl ?_|(apply Kf.mk;(focus kernel_rfl))|refine xM ?_|fail)
 refine UpV.r (v := (116, [ofA])) rfl ?_
 repeat' (first|refine Sp.h ?_|refine Lk.r rfl ?_|refine Rf.mk rfl ?_|(apply Kf.mk;(focus kernel_rfl))|refine xM ?_|fail)
 refine UpV.r (v := (118, [ofA, .ad [it (iniT t)] 0])) rfl ?_
 repeat' (first|refine Sp.h ?_|refine Lk.r rfl ?_|refine Rf.mk rfl ?_|(apply Kf.mk;(focus kernel_rfl))|refine xM ?_|fail)
 refine UpV.r (v := (121, [ofA, .ad [it (iniT t)] 0])) rfl ?_
 repeat' (first|refine Sp.h ?_|refine Lk.r rfl ?_|refine xN ?_|fail)
 exact ⟨_, _, .one (.same (.z)), _, rfl, rfl⟩
noncomputable def valE (t : TblS) (W : List WrS) : List Int := if t.kind = 2 then [if decide (Live0 W) = true then 1 else 0] else if t.kind = 3 then [if decide (In1 W) = true then 1 else 0] else if t.kind = 4 then [val4F (iniT t) W] else if vals5 W = [] then [iniT t] else srtD (vals5 W)
noncomputable def evlL (m : ModS) (l : List EvS) (ts : List TblS) : List (List Int) := ts.zipIdx.map fun p => valE p.1 (wrF m l p.2)
theorem evlL_len (m : ModS) (l : List EvS) (ts : List TblS) : (evlL m l ts).length = ts.length := by simp [evlL]
theorem evlL_snoc (m : ModS) (l : List EvS) (ts : List TblS) (t : TblS) : evlL m l (ts ++ [t]) = evlL m l ts ++ [valE t (wrF m l ts.length)] := by
 simp [evlL, List.zipIdx_append]
theorem kvs_look (t : TblS) (hk : Kd t) : ∃ f caps, lookL (kvsW t) [t.kind] = some (f, caps) ∧ en f = true ∧ ∀ W : List WrS, W.length ≤ 100000 → CallP Tryz.prog f (wrs W :: caps) (ints (valE t W)) := by
 rcases hk with k|k|k|k
 ·refine ⟨111, [ofA], by rw [k];rfl, rfl, fun W hW => ?_⟩
  have := vals2_p W (by omega)
  rwa [show valE t W = [if decide (Live0 W) = true then 1 else 0] by simp only [valE, k, if_true]]
 ·refine ⟨116, [ofA], by rw [k];rfl, rfl, fun W hW => ?_⟩
  have := vals3_p W (by omega)
  rwa [show valE t W = [if decide (In1 W) = true then 1 else 0] by simp [valE, k]]
 ·refine ⟨118, [ofA, .ad [it (iniT t)] 0], by rw [k];rfl, rfl, fun W hW => ?_⟩
  have := vals4_p W (iniT t) (by omega)
  rwa [show valE t W = [val4F (iniT t) W] by simp [valE, k]]
 ·refine ⟨121, [ofA, .ad [it (iniT t)] 0], by rw [k];rfl, rfl, fun W hW => ?_⟩
  have := vals5_p W (iniT t) (by omega)
  rwa [show valE t W = if vals5 W = [] then [iniT t] else srtD (vals5 W) by simp [valE, k]]
set_option maxHeartbeats 4000000 in
theorem eValues_a (m : ModS) (l : List EvS) (hm : LayOK m.sorts m.tables) (hkd : ∀ t ∈ m.tables, ¬ isStrict t.kind → Kd t) (hv : ∀ e ∈ l, EvV m (e.past.length : Nat) e) (ha : ActOK m l) (hl : l.length ≤ 1000) :
  CallA Tryz.prog 17 [mdl m, evs l] [] fun r own => ∃ v, r = .tup [.ow v, it 0] ∧ own = [arrR v 22 1 (evlL m l (mrgF m)) clkC] := by
 have k0 := evalidL_p m l hv
 have hml := hm.2.2.1
 refine CallA.of pg ord17 Tryz.func17 rfl Tryz.ntmps17 Tryz.results17 rfl fun h0 G0 O0 => ?_
 repeat' (first|refine Sp.h ?_|refine Lk.r rfl ?_|refine Rf.mk rfl ?_|refine xA ?_|refine Im.mk fun _=>?_|refine All.mk fun _=>?_|refine xT ?_|refine Ch.l ⟨rfl, rfl⟩ ?_|(apply Cl.p (k0);focus repeat' constructor))
 rename_i b2 hl9
 refine CA.nilOwn 6 22 1 clkC rfl fun v0 => ?_
 refine CA.loop (fun x : Nat × Value => ⟨[(1, evs l), (2, pm b2), (6, .ow x.2), (15, tbls m.tables), (16, it (m.tables.length : Nat)), (17, it (x.1 : Nat))], [mR b2 m, arrR x.2 22 1 (evlL m l (mrgL m (m.tables.take x.1))) clkC]⟩) (fun x => x.1 ≤ m.tables.length) (fun x => m.tables.length - x.1) (0, v0) xE (Nat.zero_le _) ?_
 rintro ⟨i, v⟩ hi
 simp only at hi
 simp only
 by_cases hin : i < m.tables.length
 ·obtain ⟨t, ht⟩ := get_of hin
  have htm := List.mem_of_getElem? ht
  have hc := (hm.2.2.2 t htm).1
  have h1 := sz_fit (m := m) hc
  have hn := mrgL_le hm i hi
  have hsu := mrgL_succ (m := m) ht
  have k1 := estrict_p t
  by_cases hst : isStrict t.kind
  ·rw [if_pos hst, List.append_nil] at hsu
   repeat' (first|refine Sp.h ?_|refine Lk.r rfl ?_|refine Rf.mk rfl ?_|refine xA ?_|refine All.mk fun _=>?_|refine xT ?_|refine xI ?_|refine Ch.l ⟨rfl, rfl⟩ ?_|(apply SetAsk.r;focus repeat' constructor)|refine xN ?_|refine xO ?_|(apply Cl.p (k1);focus repeat' constructor))
   rw [← hsu]
   exact PA.lp (i + 1, v) xE ⟨hin, by simp only;omega⟩
  ·rw [if_neg hst] at hsu
   obtain ⟨f, caps, hlk, hen, hf⟩ := kvs_look t (hkd t htm hst)
   have k2 := esize_p m t hc
   repeat' (first|refine Sp.h ?_|refine Lk.r rfl ?_|refine Rf.mk rfl ?_|refine xA ?_|refine xB ?_|refine OpK.r rfl ?_|refine All.mk fun _=>?_|refine xT ?_|refine xI ?_|refine Ch.l ⟨rfl, rfl⟩ ?_|(apply SetAsk.r;focus repeat' constructor)|refine xN ?_|refine xD ?_|(apply Cl.p (k1);focus repeat' constructor))
   refine xW (evalues_a t) ?_
   rintro _ _ ⟨bm, rfl, rfl⟩
   repeat' (first|refine Sp.h ?_|refine Lk.r rfl ?_|refine Rf.mk rfl ?_|refine OpK.r rfl ?_|refine xT ?_|refine Ch.l ⟨rfl, rfl⟩ ?_|(apply Kf.mk;(focus kernel_rfl))|refine xM ?_|(apply LkM.s;(focus first|assumption|rfl))|(apply Cl.p (k2);focus repeat' constructor))
   refine CA.loop (fun x : Nat × Value => ⟨[(1, evs l), (2, pm b2), (6, .ow x.2), (9, .fn f caps), (15, tbls m.tables), (16, it (m.tables.length : Nat)), (17, it (i : Nat)), (30, it (szF m t : Nat)), (31, it (x.1 : Nat))], [mR b2 m, arrR x.2 22 1 (evlL m l (mrgL m (m.tables.take i) ++ List.replicate x.1 t)) clkC]⟩) (fun x => x.1 ≤ szF m t) (fun x => szF m t - x.1) (0, v) ?_ (Nat.zero_le _) ?_
   ·simp only [List.replicate_zero, List.append_nil]
    exact xE
   rintro ⟨q, w⟩ hq
   simp only at hq
   simp only
   by_cases hqn : q < szF m t
   ·have hls := evlL_snoc m l (mrgL m (m.tables.take i) ++ List.replicate q t) t
    rw [List.append_assoc, show List.replicate q t ++ [t] = List.replicate (q + 1) t from List.replicate_succ'.symm] at hls
    have hlen := evlL_len m l (mrgL m (m.tables.take i) ++ List.replicate q t)
    have hlb : (evlL m l (mrgL m (m.tables.take i) ++ List.replicate q t)).length ≤ 10000 := by rw [hlen, List.length_append, List.length_replicate];omega
    rw [← hlen] at hls
    have hwl := wr_len m l (evlL m l (mrgL m (m.tables.take i) ++ List.replicate q t)).length
    have k3 : CallP Tryz.prog 61 [mdl m, evs l, it ((evlL m l (mrgL m (m.tables.take i) ++ List.replicate q t)).length : Nat)] (wrs (wrF m l (evlL m l (mrgL m (m.tables.take i) ++ List.replicate q t)).length)) := CallA.fz (T := 177) (by omega) (writes_p m l _ hl ha)
    have k4 := hf (wrF m l (evlL m l (mrgL m (m.tables.take i) ++ List.replicate q t)).length) (by omega)
    repeat' (first|refine Sp.h ?_|refine Lk.r rfl ?_|refine Rf.mk rfl ?_|refine xA ?_|refine xP ?_|refine All.mk fun _=>?_|refine xU ?_|refine xT ?_|refine Ce.r ?_|refine Ch.l ⟨rfl, rfl⟩ ?_|(apply Fk.r;focus repeat' first|infer_instance|constructor)|refine Rf.mk ⟨rfl, rfl⟩ ?_|refine Rf.mk ⟨rfl, rfl, rfl⟩ ?_|(apply Rf.mk;(focus assumption))|(apply Mp.lit;(focus repeat (first|exact MpL.nil|(apply MpL.cons;(focus rfl))|(apply MpL.inv;(focus repeat constructor);(focus infer_instance)))))|refine xO ?_|(apply Cl.p (k3);focus repeat' constructor)|(apply Cl.p (k4);focus repeat' constructor))
    ·exact Lend.all _
    rw [← hls]
    exact PA.lp (q + 1, _) xE ⟨hqn, by simp only;omega⟩
   have hqe : q = szF m t := by omega
   subst hqe
   rw [← hsu]
   repeat' (first|refine Sp.h ?_|refine Lk.r rfl ?_|refine Rf.mk rfl ?_|refine xB ?_|refine xO ?_|fail)
   exact PA.lp (i + 1, w) xE ⟨hin, by simp only;omega⟩
 ·have hie : i = m.tables.length := by omega
  subst hie
  simp only [List.take_length]
  repeat' (first|refine Sp.h ?_|refine Lk.r rfl ?_|refine Rf.mk rfl ?_|refine xB ?_|refine xN ?_|fail)
  exact ⟨_, _, .one (.same (.z)), _, rfl, rfl⟩
theorem eValues_p (m : ModS) (l : List EvS) (hm : LayOK m.sorts m.tables) (hkd : ∀ t ∈ m.tables, ¬ isStrict t.kind → Kd t) (hv : ∀ e ∈ l, EvV m (e.past.length : Nat) e) (ha : ActOK m l) (hl : l.length ≤ 1000) :
  CallP Tryz.prog 17 [mdl m, evs l] (.tup [.sl 1 (evlL m l (mrgF m)) clkC, it 0]) :=
 CallA.fzt (T := 22) (by have := mrgF_le hm;rw [evlL_len];omega) (eValues_a m l hm hkd hv ha hl)
end Go.Proofs.YtajenkpjcbaadaaGreat
namespace Go.Proofs.YtajenkpjcbaadaaGreat
open Go Go.CF
set_option maxRecDepth 20000
theorem cmpT_pos {a b : EvS} : 0 < cmpT a b ↔ LtT b a := by
 unfold cmpT orI LtT
 simp only [List.find?_cons, List.find?_nil]
 unfold cmpI
 by_cases h1 : a.time < b.time
 ·simp [h1];omega
 ·by_cases h2 : b.time < a.time
  ·simp [h1, h2]
  ·have h3 : a.time = b.time := by omega
   by_cases h4 : a.rep < b.rep
   ·simp [h3, h4];omega
   ·by_cases h5 : b.rep < a.rep
    ·simp [h3, h4, h5]
    ·simp [h3, h4, h5]
theorem maxW_ok : ∀ (l : List WrS) (a : WrS), maxW a l ∈ a :: l ∧ ∀ x ∈ a :: l, ¬ LtT (maxW a l).1 x.1
 | [], a => ⟨by simp [maxW], fun x hx => by
   rw [List.mem_singleton.1 hx]
   show ¬ LtT a.1 a.1
   unfold LtT;omega⟩
 | y :: l, a => by
  have hs : maxW a (y :: l) = maxW (if 0 < cmpT y.1 a.1 then y else a) l := rfl
  rw [hs]
  obtain ⟨h1, h2⟩ := maxW_ok l (if 0 < cmpT y.1 a.1 then y else a)
  generalize hm : maxW (if 0 < cmpT y.1 a.1 then y else a) l = M at *
  by_cases hc : 0 < cmpT y.1 a.1
  ·rw [if_pos hc] at h1 h2
   have hc' := cmpT_pos.1 hc
   refine ⟨List.mem_cons_of_mem _ h1, fun x hx => ?_⟩
   rcases List.mem_cons.1 hx with rfl|hx
   ·have h3 := h2 y (by simp)
    intro h4;exact h3 (by unfold LtT at *;omega)
   ·exact h2 x hx
  ·rw [if_neg hc] at h1 h2
   have hc' : ¬ LtT a.1 y.1 := fun h => hc (cmpT_pos.2 h)
   refine ⟨?_, fun x hx => ?_⟩
   ·rcases List.mem_cons.1 h1 with h1|h1
    ·rw [h1];simp
    ·simp [h1]
   ·rcases List.mem_cons.1 hx with rfl|hx
    ·exact h2 _ (by simp)
    ·rcases List.mem_cons.1 hx with rfl|hx
     ·have h3 := h2 a (by simp)
      intro h4;exact h3 (by unfold LtT at *;omega)
     ·exact h2 x (by simp [hx])
theorem ofW_mem {L : List WrS} {k : Int} {w : WrS} : w ∈ ofW L k ↔ w ∈ L ∧ w.2.1 = k := by simp [ofW]
theorem valE_d {t : TblS} (W : List WrS) : ValD t W (valE t W) := by
 refine ⟨fun k => ?_, fun k => ?_, fun k => ?_, fun k => ?_⟩
 ·simp [valE, k]
 ·simp [valE, k]
 ·have hv : valE t W = [val4F (iniT t) W] := by simp [valE, k]
  rw [hv]
  cases ho : ofW W 2 with
  | nil =>
   refine .inl ⟨fun w hw h2 => ?_, by simp only [val4F, ho]⟩
   have := ofW_mem.2 ⟨hw, h2⟩
   rw [ho] at this;cases this
  | cons a l =>
   obtain ⟨h1, h2⟩ := maxW_ok l a
   rw [← ho] at h1 h2
   obtain ⟨h3, h4⟩ := ofW_mem.1 h1
   exact .inr ⟨_, h3, h4, by simp only [val4F, ho], fun x hx hx2 => h2 x (ofW_mem.2 ⟨hx, hx2⟩)⟩
 ·simp [valE, k]
theorem evl_eq {m : ModS} {l : List EvS} {k : List MgS} (hm : LayOK m.sorts m.tables) (hc : ClosedE l) (h : KnL m l k) : valsF (mrgF m) k = evlL m l (mrgF m) := by
 apply List.ext_getElem?
 intro i
 unfold valsF evlL
 simp only [List.getElem?_map, List.getElem?_zipIdx]
 cases ht : (mrgF m)[i]? with
 | none =>
  have h9 := List.getElem?_eq_none_iff.1 ht
  simp
  omega
 | some t =>
  have hil := (List.getElem?_eq_some_iff.1 ht).1
  obtain ⟨g, hg⟩ : ∃ g, k[i]? = some g := ⟨_, List.getElem?_eq_getElem (by rw [h.len];exact hil)⟩
  have hz : ((mrgF m).zip k)[i]? = some (t, g) := by rw [List.getElem?_zip_eq_some];exact ⟨ht, hg⟩
  rw [hz]
  simp only [Option.map_some, Nat.zero_add]
  rw [valD_eq (kd_of hm ht) hc (h.kn i t g ht hg).1 (valE_d _)]
theorem kn_perm {m : ModS} {X l : List EvS} {k : List MgS} (hp : X.Perm l) (h : KnL m X k) : KnL m l k := by
 have hmem : ∀ e : EvS, e ∈ X ↔ e ∈ l := fun e => hp.mem_iff
 refine ⟨h.len, fun i t g ht hg => ?_⟩
 obtain ⟨k, n⟩ := h.kn i t g ht hg
 refine ⟨⟨by simpa only [PutP, hmem] using k.put, k.drop, k.srt, fun h4 => by have := k.four h4;simpa only [Kn4, Asg, hmem] using this, fun h4 x => by have := k.liv h4 x;simpa only [Liv, hmem] using this⟩, by rw [← hp.length_eq];exact n⟩
end Go.Proofs.YtajenkpjcbaadaaGreat
namespace Go.Proofs.YtajenkpjcbaadaaGreat
open Go Go.CF
set_option maxRecDepth 20000
theorem end_show {m : ModS} {ld : List Int} {l D U : List EvS} {p : PrS} (hs : SuitS m ld l) (h : InvP m ld l D p) (hp : D.Perm U) (hU : ClosedE U) : p.s.now.state = U.foldl (addE m) ld ∧ (valuesQ m p.s.now.merged).2 = evlL m U (mrgF m) := by
 have hc := hs.e.2.2.1
 have hlay := hs.e.1.lay
 have hlen := extO_len h.buf.ext
 have hl60 := hs.e.2.1.1
 refine ⟨by rw [h.sto.state, state_perm hp], ?_⟩
 have hvl : ValL (mrgF m) p.s.now.merged := h.sto.merged.valL hlay hs.e.2.2.2.1 (uniqP_sub (uniqP_of hc.2.1) h.buf.ext.sub) (fun e he => (hc.2.2.1 e (h.buf.ext.sub e he)).1) (by omega)
 rw [valuesQ_ok hvl]
 exact evl_eq hlay hU (kn_perm hp h.sto.merged)
theorem closed_nil : ClosedE [] := ⟨by simp, fun i j a b h => by simp at h, fun e he => (nomatch he), fun e he => (nomatch he)⟩
theorem part_closed' {l : List EvS} (hc : ClosedE l) {k : List Int} (hk : Part l k) : ClosedE (cutL l k) := by
 by_cases h : cutL l k = []
 ·rw [h];exact closed_nil
 ·exact part_closed hc hk h
end Go.Proofs.YtajenkpjcbaadaaGreat
