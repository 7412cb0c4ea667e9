/- Part 11 of the ground of this proof: what its texts say of the model, the program and the plain data; conditions: those that are named. -/
import Derived.Test.YtajenkpjcbaadaaGreatD10
namespace Go.Proofs.YtajenkpjcbaadaaGreat
open Go Go.CF
set_option maxRecDepth 20000
def cmpE (a b : EvS) : Int := orI [cmpI a.time b.time, cmpI a.rep b.rep, cmpI a.num b.num]
def LtE (a b : EvS) : Prop := a.time < b.time ∨ a.time = b.time ∧ (a.rep < b.rep ∨ a.rep = b.rep ∧ a.num < b.num)
noncomputable instance (a b : EvS) : Decidable (LtE a b) := Classical.propDecidable _
theorem cmpE_neg {a b : EvS} : cmpE a b < 0 ↔ LtE a b := cmpK_neg (a := ⟨a.rep, a.num, a.time, 0⟩) (b := ⟨b.rep, b.num, b.time, 0⟩)
theorem order1_p (a b : EvS) : CallP Tryz.prog 46 [evA' a, evA' b] (it (cmpE a b)) := by
 refine CallA.of pg ord46 Tryz.func46 rfl Tryz.ntmps46 Tryz.results46 rfl fun h0 G0 O0 => ?_
 repeat' (first|refine Sp.h ?_|refine Lk.r rfl ?_|refine Rf.mk rfl ?_|refine OpK.r rfl ?_|refine All.mk fun _=>?_|refine xT ?_|(apply Fk.r;focus repeat' first|infer_instance|constructor)|refine Rf.mk ⟨rfl, rfl, rfl⟩ ?_|refine xD ?_|(apply Cl.p (compareI_p _ _);focus repeat' constructor))
 have h := orI_p [cmpI a.time b.time, cmpI a.rep b.rep, cmpI a.num b.num]
 (apply Cl.lend (h);(focus repeat' (first|exact Lend.nil|(apply Lend.lendm;(focus repeat constructor);(focus rfl);(focus first|omega|decide|(simp;omega)|exact Nat.le_of_ble_eq_true rfl))|fail)))
 repeat' (first|refine Sp.h ?_|refine Lk.r rfl ?_|refine OpK.r rfl ?_|refine xN ?_|fail)
 exact Fin.p rfl rfl
abbrev SrtE (l : List EvS) : Prop := l.Pairwise fun a b => ¬ LtE b a
abbrev eR (v : Value) (L : List EvS) : Res := arrR v 40 13 L evC
theorem at_len {α : Type} {p : List α} {x : α} {q : List α} {i : Nat} (h : i = p.length) : (p ++ x :: q)[i]? = some x := by
 rw [h, List.getElem?_append_right (Nat.le_refl _), Nat.sub_self];rfl
theorem set_len {α : Type} {p : List α} {x y : α} {q : List α} {i : Nat} (h : i = p.length) : (p ++ x :: q).set i y = p ++ y :: q := by
 rw [h, List.set_append_right _ _ (Nat.le_refl _), Nat.sub_self];rfl
theorem swap_len {α : Type} {p : List α} {x y : α} {q : List α} {i : Nat} (h : i = p.length) : ((p ++ x :: y :: q).set i y).set (i + 1) x = p ++ y :: x :: q := by
 rw [set_len h]
 have : p ++ y :: y :: q = (p ++ [y]) ++ y :: q := by simp
 rw [this, set_len (by simp [h])]
 simp
theorem swap_len' {α : Type} {p : List α} {x y : α} {q : List α} {i : Nat} (h : i = p.length) : ((p ++ x :: y :: q).set (i + 1) x).set i y = p ++ y :: x :: q := by
 have : p ++ x :: y :: q = (p ++ [x]) ++ y :: q := by simp
 rw [this, set_len (by simp [h])]
 have : p ++ [x] ++ x :: q = p ++ x :: x :: q := by simp
 rw [this, set_len h]
theorem ne_snoc {α : Type} {l : List α} (h : l ≠ []) : ∃ m y, l = m ++ [y] := ⟨l.dropLast, l.getLast h, (List.dropLast_concat_getLast h).symm⟩
theorem srt_ins {S1 S2 : List EvS} {x : EvS} (h : SrtE (S1 ++ S2)) (h2 : ∀ s ∈ S2, LtE x s) (h1 : ∀ m y, S1 = m ++ [y] → ¬ LtE x y) : SrtE (S1 ++ x :: S2) := by
 obtain ⟨a1, a2, a3⟩ := List.pairwise_append.1 h
 refine List.pairwise_append.2 ⟨a1, List.pairwise_cons.2 ⟨fun s hs h9 => ?_, a2⟩, fun s hs t ht => ?_⟩
 ·have := h2 s hs;unfold LtE at *;omega
 ·rcases List.mem_cons.1 ht with e|ht
  ·subst e
   by_cases hn : S1 = []
   ·subst hn;cases hs
   ·obtain ⟨m, y, rfl⟩ := ne_snoc hn
    have hy := h1 m y rfl
    rcases List.mem_append.1 hs with hs|hs
    ·have := (List.pairwise_append.1 a1).2.2 s hs y (by simp)
     unfold LtE at *;omega
    ·rw [List.mem_singleton.1 hs];exact hy
  ·exact a3 s hs t ht
set_option maxHeartbeats 2000000 in
theorem insSort_a (v : Value) (L pre A post : List EvS) (a b : Int) (hL : L = pre ++ A ++ post) (ha : a = pre.length) (hb : b = pre.length + A.length) (hl : L.length ≤ 100000) :
  CallA Tryz.prog 148 [.ow v, it a, it b, .fn 46 []] [eR v L] fun r o => ∃ L' S, r = .tup [] ∧ o = [eR v L'] ∧ L' = pre ++ S ++ post ∧ A.Perm S ∧ SrtE S := by
 subst ha hb
 have hll : L.length = pre.length + A.length + post.length := by rw [hL];simp;omega
 refine CallA.of pg ord148 Tryz.func148 rfl Tryz.ntmps148 Tryz.results148 rfl fun h0 G0 O0 => ?_
 by_cases hA : A = []
 ·subst hA
  repeat' (first|refine Sp.h ?_|refine Lk.r rfl ?_|refine Rf.mk rfl ?_|refine xO ?_|fail)
  refine CA.loop (fun _ : Unit => ⟨[(8, it ((pre.length : Int) + 1)), (2, it ((pre.length : Int) + ([] : List EvS).length))], [eR v L]⟩) (fun _ => True) (fun _ => 0) () xE trivial ?_
  rintro ⟨⟩ -
  have h0 : (([] : List EvS).length : Int) = 0 := rfl
  repeat' (first|refine Sp.h ?_|refine Lk.r rfl ?_|refine Rf.mk rfl ?_|refine xB ?_|refine xN ?_|fail)
  exact ⟨_, _, .tup (.z), L, [], rfl, rfl, by simpa using hL, List.Perm.refl _, List.Pairwise.nil⟩
 obtain ⟨x0, A', rfl⟩ := List.exists_cons_of_ne_nil hA
 have hbl : (pre.length : Int) + ((x0 :: A').length : Nat) = ((pre.length + (x0 :: A').length : Nat) : Int) := by omega
 rw [hbl]
 repeat' (first|refine Sp.h ?_|refine Lk.r rfl ?_|refine Rf.mk rfl ?_|refine xO ?_|fail)
 refine CA.loop (fun q : Nat × List EvS => ⟨[(0, .ow v), (1, it (pre.length : Nat)), (2, it ((pre.length + (x0 :: A').length : Nat) : Int)), (3, .fn 46 []), (8, it q.1)], [eR v q.2]⟩)
  (fun q => ∃ S R, q.1 = pre.length + S.length ∧ q.2 = pre ++ (S ++ R) ++ post ∧ SrtE S ∧ (x0 :: A').Perm (S ++ R)) (fun q => pre.length + (x0 :: A').length - q.1) (pre.length + 1, L) xE ⟨[x0], A', rfl, by simpa using hL, by simp, List.Perm.refl _⟩ ?_
 rintro ⟨i, D⟩ ⟨S, R, h1, h2, h3, h4⟩
 simp only at h1 h2
 simp only
 have hpl := h4.length_eq
 rw [List.length_append] at hpl
 have hDl : D.length = L.length := by rw [h2];simp only [List.length_append] at hpl ⊢;rw [hll];omega
 by_cases hi : i < pre.length + (x0 :: A').length
 ·have hR : R ≠ [] := fun h => by subst h;simp at hpl;simp at hi;omega
  obtain ⟨x, R', rfl⟩ := List.exists_cons_of_ne_nil hR
  repeat' (first|refine Sp.h ?_|refine Lk.r rfl ?_|refine Rf.mk rfl ?_|refine xA ?_|fail)
  refine CA.loop (fun q : Nat × List EvS => ⟨[(0, .ow v), (1, it (pre.length : Nat)), (2, it ((pre.length + (x0 :: A').length : Nat) : Int)), (3, .fn 46 []), (8, it i), (9, it q.1)], [eR v q.2]⟩)
   (fun q => ∃ S1 S2, q.1 = pre.length + S1.length ∧ q.2 = (pre ++ S1) ++ x :: (S2 ++ R' ++ post) ∧ SrtE (S1 ++ S2) ∧ S.Perm (S1 ++ S2) ∧ ∀ s ∈ S2, LtE x s) (fun q => q.1) (i, D) xE ⟨S, [], h1, by simp only;rw [h2];simp, by simpa using h3, by simp, by simp⟩ ?_
  rintro ⟨j, E⟩ ⟨S1, S2, g1, g2, g3, g4, g5⟩
  simp only at g1 g2
  simp only
  have hpl2 := g4.length_eq
  rw [List.length_append] at hpl2
  have hEl : E.length = L.length := by rw [g2];simp only [List.length_append, List.length_cons] at hpl ⊢;rw [hll];simp only [List.length_cons];omega
  have hend : (∀ m y, S1 = m ++ [y] → ¬ LtE x y) → ∃ T Q, i + 1 = pre.length + T.length ∧ E = pre ++ (T ++ Q) ++ post ∧ SrtE T ∧ (x0 :: A').Perm (T ++ Q) := fun h =>
   ⟨S1 ++ x :: S2, R', by simp;omega, by rw [g2];simp, srt_ins g3 g5 h, h4.trans (by
    have e1 : S1 ++ x :: S2 ++ R' = S1 ++ (x :: (S2 ++ R')) := by simp
    have e2 : (S1 ++ (x :: (S2 ++ R'))).Perm (x :: (S1 ++ (S2 ++ R'))) := List.perm_middle
    rw [e1]
    refine List.Perm.trans ?_ e2.symm
    refine List.perm_middle.trans (List.Perm.cons x ?_)
    rw [← List.append_assoc]
    exact g4.append_right R')⟩
  by_cases hS : S1 = []
  ·subst hS
   have hj : j = pre.length := by simpa using g1
   repeat' (first|refine Sp.h ?_|refine Lk.r rfl ?_|refine Rf.mk rfl ?_|refine xB ?_|refine OpK.r rfl ?_|refine xD ?_|refine xO ?_|(apply Cl.p (order1_p _ _);(focus repeat' (first|fail))))
   exact PA.lp (i + 1, E) xE ⟨hend (fun m y h => by simp at h), by simp only;omega⟩
  ·obtain ⟨m, y, rfl⟩ := ne_snoc hS
   obtain ⟨q, rfl⟩ : ∃ q, j = q + 1 := ⟨j - 1, by simp at g1;omega⟩
   have hq : q = (pre ++ m).length := by simp at g1 ⊢;omega
   have g2' : E = (pre ++ m) ++ y :: x :: (S2 ++ R' ++ post) := by rw [g2];simp
   have e1 : ((q + 1 : Nat) : Int) - 1 = (q : Nat) := by omega
   have hx : E[q + 1]? = some x := by
    rw [g2];exact at_len (by simp at g1 ⊢;omega)
   have hy : E[q]? = some y := by rw [g2'];exact at_len hq
   have hgt : (pre.length : Int) < ((q + 1 : Nat) : Int) := by simp at g1;omega
   have hcm := cmpE_neg (a := x) (b := y)
   by_cases hlt : LtE x y
   ·have hc := hcm.2 hlt
    have hy2 : (E.set (q + 1) y)[q]? = some y := by rw [List.getElem?_set, if_neg (by omega), hy]
    repeat' (first|refine Sp.h ?_|refine Lk.r rfl ?_|refine Rf.mk rfl ?_|refine xA ?_|refine OpK.r rfl ?_|refine xU ?_|refine xI ?_|(apply Ix.r;(focus assumption);(focus omega))|refine xJ ?_|refine Ch.l ⟨rfl, rfl⟩ ?_|(apply SetAsk.r;focus repeat' constructor)|refine Up.r rfl ?_|refine xD ?_|refine xO ?_|(apply Cl.p (order1_p _ _);focus repeat' constructor))
    all_goals rw [e1]
    all_goals refine PA.lp (q, (E.set (q + 1) y).set q x) xE ⟨⟨m, y :: S2, by simp at g1 ⊢;omega, by simp only;rw [g2', swap_len' hq];simp, by simpa using g3, g4.trans (by simp), fun s hs => ?_⟩, by simp only;omega⟩
    all_goals rcases List.mem_cons.1 hs with rfl|hs
    all_goals first|exact hlt|exact g5 s hs
   ·have hc : ¬ cmpE x y < 0 := fun h => hlt (hcm.1 h)
    repeat' (first|refine Sp.h ?_|refine Lk.r rfl ?_|refine Rf.mk rfl ?_|refine xA ?_|refine xB ?_|refine OpK.r rfl ?_|refine xU ?_|refine xI ?_|(apply Ix.r;(focus assumption);(focus omega))|refine xJ ?_|refine Ch.l ⟨rfl, rfl⟩ ?_|refine xD ?_|refine xO ?_|(apply Cl.p (order1_p _ _);focus repeat' constructor))
    exact PA.lp (i + 1, E) xE ⟨hend (fun m' y' h => by
     obtain ⟨-, h9⟩ := List.append_inj' h rfl
     cases h9;exact hlt), by simp only;omega⟩
 ·have hR : R = [] := List.eq_nil_of_length_eq_zero (by simp at hpl hi;omega)
  subst hR
  repeat' (first|refine Sp.h ?_|refine Lk.r rfl ?_|refine Rf.mk rfl ?_|refine xB ?_|refine xN ?_|fail)
  exact ⟨_, _, .tup (.z), D, S, rfl, rfl, by rw [h2];simp, by simpa using h4, h3⟩
end Go.Proofs.YtajenkpjcbaadaaGreat
namespace Go.Proofs.YtajenkpjcbaadaaGreat
open Go Go.CF
set_option maxRecDepth 20000
set_option maxHeartbeats 2000000 in
theorem swapRange_n (v : Value) (L p U M V q : List EvS) (a b n : Nat) (hL : L = p ++ (U ++ (M ++ (V ++ q)))) (ha : a = p.length) (hb : b = p.length + U.length + M.length) (hn : n = U.length) (hv : V.length = U.length) (hl : L.length ≤ 100000) :
  CallA Tryz.prog 212 [.ow v, it a, it b, it n, .fn 46 []] [eR v L] fun r o => r = .tup [] ∧ o = [eR v (p ++ (V ++ (M ++ (U ++ q))))] := by
 have hll : L.length = p.length + U.length + M.length + V.length + q.length := by rw [hL];simp;omega
 refine CallA.of pg ord212 Tryz.func212 rfl Tryz.ntmps212 Tryz.results212 rfl fun h0 G0 O0 => ?_
 repeat' (first|refine Sp.h ?_|refine Lk.r rfl ?_|refine Rf.mk rfl ?_|fail)
 refine CA.loop (fun s : Nat × List EvS => ⟨[(0, .ow v), (1, it a), (2, it b), (3, it n), (10, it s.1)], [eR v s.2]⟩)
  (fun s => ∃ U1 U2 V1 V2, U = U1 ++ U2 ∧ V = V1 ++ V2 ∧ U1.length = s.1 ∧ V1.length = s.1 ∧ s.2 = p ++ (V1 ++ (U2 ++ (M ++ (U1 ++ (V2 ++ q)))))) (fun s => n - s.1) (0, L) xE ⟨[], U, [], V, rfl, rfl, rfl, rfl, by simpa using hL⟩ ?_
 rintro ⟨i, D⟩ ⟨U1, U2, V1, V2, h1, h2, h3, h4, h5⟩
 simp only at h3 h4 h5
 simp only
 have k1 := congrArg List.length h1
 have k2 := congrArg List.length h2
 rw [List.length_append] at k1 k2
 have hDl : D.length = L.length := by rw [h5, hll];simp only [List.length_append];omega
 by_cases hi : i < n
 ·obtain ⟨x, U3, rfl⟩ := List.exists_cons_of_ne_nil (l := U2) (fun h => by subst h;simp at k1;omega)
  obtain ⟨y, V3, rfl⟩ := List.exists_cons_of_ne_nil (l := V2) (fun h => by subst h;simp at k2;omega)
  have f1 : D = (p ++ V1) ++ x :: (U3 ++ (M ++ (U1 ++ (y :: V3 ++ q)))) := by rw [h5];simp
  have f2 : D = (p ++ V1 ++ x :: U3 ++ M ++ U1) ++ y :: (V3 ++ q) := by rw [h5];simp
  have i1 : a + i = (p ++ V1).length := by rw [List.length_append];omega
  have i2 : b + i = (p ++ V1 ++ x :: U3 ++ M ++ U1).length := by simp at k1 ⊢;omega
  have hne : a + i < b + i := by simp at k1;omega
  have hx : D[a + i]? = some x := by rw [f1];exact at_len i1
  have hy : D[b + i]? = some y := by rw [f2];exact at_len i2
  have hy2 : (D.set (a + i) y)[b + i]? = some y := by rw [List.getElem?_set, if_neg (by omega), hy]
  have hlen1 : a + i < D.length := (List.getElem?_eq_some_iff.1 hx).1
  have hlen2 : b + i < D.length := (List.getElem?_eq_some_iff.1 hy).1
  have hset : (D.set (a + i) y).set (b + i) x = p ++ ((V1 ++ [y]) ++ (U3 ++ (M ++ ((U1 ++ [x]) ++ (V3 ++ q))))) := by
   rw [f1, set_len i1]
   have : (p ++ V1) ++ y :: (U3 ++ (M ++ (U1 ++ (y :: V3 ++ q)))) = (p ++ V1 ++ y :: U3 ++ M ++ U1) ++ y :: (V3 ++ q) := by simp
   rw [this, set_len (by simp at i2 ⊢;omega)]
   simp
  repeat' (first|refine Sp.h ?_|refine Lk.r rfl ?_|refine Rf.mk rfl ?_|refine xA ?_|refine OpK.r rfl ?_|refine xU ?_|refine xI ?_|refine xJ ?_|refine Ch.l ⟨rfl, rfl⟩ ?_|(apply SetAsk.r;focus repeat' constructor)|refine Up.r rfl ?_|refine xD ?_|refine xO ?_|fail)
  all_goals exact PA.lp (i + 1, (D.set (a + i) y).set (b + i) x) xE ⟨⟨U1 ++ [x], U3, V1 ++ [y], V3, by simp [h1], by simp [h2], by simp [h3], by simp [h4], hset⟩, by simp only;omega⟩
 ·have e1 : U2 = [] := List.eq_nil_of_length_eq_zero (by omega)
  have e2 : V2 = [] := List.eq_nil_of_length_eq_zero (by omega)
  subst e1 e2
  rw [List.append_nil] at h1 h2
  subst h1 h2
  have h5 : D = p ++ (V ++ (M ++ (U ++ q))) := by rw [h5];simp
  repeat' (first|refine Sp.h ?_|refine Lk.r rfl ?_|refine Rf.mk rfl ?_|refine xB ?_|refine xN ?_|fail)
  exact ⟨_, [eR v D], .tup (.z), rfl, by rw [h5]⟩
theorem swapRange_a (v : Value) (L p U M V q : List EvS) (a b n : Int) (hL : L = p ++ (U ++ (M ++ (V ++ q)))) (ha : a = p.length) (hb : b = p.length + U.length + M.length) (hn : n = U.length) (hv : V.length = U.length) (hl : L.length ≤ 100000) :
  CallA Tryz.prog 212 [.ow v, it a, it b, it n, .fn 46 []] [eR v L] fun r o => r = .tup [] ∧ o = [eR v (p ++ (V ++ (M ++ (U ++ q))))] := by
 obtain ⟨A, rfl⟩ : ∃ A : Nat, a = A := ⟨_, ha⟩
 obtain ⟨B, rfl⟩ : ∃ B : Nat, b = B := ⟨p.length + U.length + M.length, by omega⟩
 obtain ⟨N, rfl⟩ : ∃ N : Nat, n = N := ⟨_, hn⟩
 exact swapRange_n v L p U M V q A B N hL (by omega) (by omega) (by omega) hv hl
theorem split_at {α : Type} (l : List α) (n : Nat) (h : n ≤ l.length) : ∃ a b, l = a ++ b ∧ a.length = n := ⟨l.take n, l.drop n, (List.take_append_drop n l).symm, by simp [h]⟩
set_option maxHeartbeats 2000000 in
theorem rotate_n (v : Value) (L p U V q : List EvS) (a m b : Nat) (hL : L = p ++ (U ++ (V ++ q))) (ha : a = p.length) (hm : m = p.length + U.length) (hb : b = p.length + U.length + V.length) (hu : 0 < U.length) (hv : 0 < V.length) (hl : L.length ≤ 100000) :
  CallA Tryz.prog 187 [.ow v, it a, it m, it b, .fn 46 []] [eR v L] fun r o => r = .tup [] ∧ o = [eR v (p ++ (V ++ (U ++ q)))] := by
 have hll : L.length = p.length + U.length + V.length + q.length := by rw [hL];simp;omega
 have z1 : ((m : Nat) : Int) - (a : Nat) = (U.length : Nat) := by omega
 have z2 : ((b : Nat) : Int) - (m : Nat) = (V.length : Nat) := by omega
 refine CallA.of pg ord187 Tryz.func187 rfl Tryz.ntmps187 Tryz.results187 rfl fun h0 G0 O0 => ?_
 (repeat' (first|(show CA _ _ (Code.block 0 _) _ _;apply Stopped.out)|refine Sp.h ?_|refine Lk.r rfl ?_|refine Rf.mk rfl ?_|refine xO ?_|fail));any_goals apply Stopped.mk
 rw [z1, z2]
 repeat' (first|refine Sp.h ?_|fail)
 refine CA.loop (fun s : Nat × Nat × List EvS => ⟨[(0, .ow v), (2, it m), (4, .fn 46 []), (10, it s.1), (11, it s.2.1)], [eR v s.2.2]⟩)
  (fun s => 0 < s.1 ∧ 0 < s.2.1 ∧ ∃ P u w Q, s.2.2 = (p ++ P) ++ (u ++ (w ++ (Q ++ q))) ∧ (p ++ P).length + s.1 = m ∧ u.length = s.1 ∧ w.length = s.2.1 ∧ P ++ (w ++ (u ++ Q)) = V ++ U) (fun s => s.1 + s.2.1) (U.length, V.length, L) xE ⟨hu, hv, [], U, V, [], by simpa using hL, by simp [hm], rfl, rfl, by simp⟩ ?_
 rintro ⟨i, j, D⟩ ⟨h1, h2, P, u, w, Q, h3, h4, h5, h6, h7⟩
 simp only at h1 h2 h3 h4 h5 h6
 simp only
 have hlen := congrArg List.length h7
 simp only [List.length_append] at hlen
 have hDl : D.length = L.length := by rw [h3, hll];simp only [List.length_append];omega
 have hmj : m + j ≤ 200000 := by rw [List.length_append] at h4;omega
 rcases Nat.lt_trichotomy i j with hij|hij|hij
 ·obtain ⟨w1, w2, rfl, hw1⟩ := split_at w (j - i) (by omega)
  rw [List.length_append] at h6
  have hsw := swapRange_a v D (p ++ P) u w1 w2 (Q ++ q) ((m : Nat) - (i : Nat)) ((m : Nat) + (j : Nat) - (i : Nat)) i (by rw [h3];simp) (by omega) (by omega) (by omega) (by omega) (by omega)
  have e1 : ((j : Nat) : Int) - (i : Nat) = ((j - i : Nat) : Int) := by omega
  repeat' (first|refine Sp.h ?_|refine Lk.r rfl ?_|refine Rf.mk rfl ?_|refine xB ?_|refine xO ?_|fail)
  refine xW (hsw) ?_
  rintro _ _ ⟨rfl, rfl⟩
  repeat' (first|refine Sp.h ?_|refine Lk.r rfl ?_|refine Rf.mk rfl ?_|refine xO ?_|fail)
  rw [e1]
  exact PA.lp (i, j - i, _) xE ⟨⟨h1, by simp only;omega, P, w2, w1, u ++ Q, by simp, h4, by simp only;omega, hw1, by rw [← h7];simp⟩, by simp only;omega⟩
 ·subst hij
  have hsw := swapRange_a v D (p ++ P) u [] w (Q ++ q) ((m : Nat) - (i : Nat)) m i (by rw [h3];simp) (by omega) (by simp only [List.length_nil];omega) (by omega) (by omega) (by omega)
  repeat' (first|refine Sp.h ?_|refine Lk.r rfl ?_|refine Rf.mk rfl ?_|refine xA ?_|refine xO ?_|fail)
  refine xW (hsw) ?_
  rintro _ _ ⟨rfl, rfl⟩
  repeat' (first|refine Sp.h ?_|refine xN ?_|fail)
  refine ⟨_, [eR v (p ++ P ++ (w ++ ([] ++ (u ++ (Q ++ q)))))], .tup (.z), rfl, ?_⟩
  have : p ++ P ++ (w ++ ([] ++ (u ++ (Q ++ q)))) = p ++ ((P ++ (w ++ (u ++ Q))) ++ q) := by simp
  rw [this, h7];simp
 ·obtain ⟨u1, u2, rfl, hu1⟩ := split_at u j (by omega)
  rw [List.length_append] at h5
  have hsw := swapRange_a v D (p ++ P) u1 u2 w (Q ++ q) ((m : Nat) - (i : Nat)) m j (by rw [h3];simp) (by omega) (by omega) (by omega) (by omega) (by omega)
  have e1 : ((i : Nat) : Int) - (j : Nat) = ((i - j : Nat) : Int) := by omega
  repeat' (first|refine Sp.h ?_|refine Lk.r rfl ?_|refine Rf.mk rfl ?_|refine xA ?_|refine xB ?_|refine xO ?_|fail)
  refine xW (hsw) ?_
  rintro _ _ ⟨rfl, rfl⟩
  repeat' (first|refine Sp.h ?_|refine Lk.r rfl ?_|refine Rf.mk rfl ?_|refine xO ?_|fail)
  rw [e1]
  exact PA.lp (i - j, j, _) xE ⟨⟨by simp only;omega, h2, P ++ w, u2, u1, Q, by simp, by simp at h4 ⊢;omega, by simp only;omega, hu1, by rw [← h7];simp⟩, by simp only;omega⟩
theorem rotate_a (v : Value) (L p U V q : List EvS) (a m b : Int) (hL : L = p ++ (U ++ (V ++ q))) (ha : a = p.length) (hm : m = p.length + U.length) (hb : b = p.length + U.length + V.length) (hu : 0 < U.length) (hv : 0 < V.length) (hl : L.length ≤ 100000) :
  CallA Tryz.prog 187 [.ow v, it a, it m, it b, .fn 46 []] [eR v L] fun r o => r = .tup [] ∧ o = [eR v (p ++ (V ++ (U ++ q)))] := by
 obtain ⟨A, rfl⟩ : ∃ A : Nat, a = A := ⟨_, ha⟩
 obtain ⟨M, rfl⟩ : ∃ M : Nat, m = M := ⟨p.length + U.length, by omega⟩
 obtain ⟨B, rfl⟩ : ∃ B : Nat, b = B := ⟨p.length + U.length + V.length, by omega⟩
 exact rotate_n v L p U V q A M B hL (by omega) (by omega) (by omega) hu hv hl
end Go.Proofs.YtajenkpjcbaadaaGreat
namespace Go.Proofs.YtajenkpjcbaadaaGreat
open Go Go.CF
set_option maxRecDepth 20000
theorem LtE.asymm {a b : EvS} (h : LtE a b) : ¬ LtE b a := by unfold LtE at *;omega
theorem le_lt {a b c : EvS} (h : ¬ LtE b a) (h2 : LtE b c) : LtE a c := by unfold LtE at *;omega
theorem lt_le {a b c : EvS} (h : LtE a b) (h2 : ¬ LtE c b) : LtE a c := by unfold LtE at *;omega
theorem le_le {a b c : EvS} (h : ¬ LtE b a) (h2 : ¬ LtE c b) : ¬ LtE c a := by unfold LtE at *;omega
set_option maxHeartbeats 4000000 in
theorem merge1_a (v : Value) (L p B q : List EvS) (x : EvS) (a m b : Nat) (hL : L = p ++ (x :: (B ++ q))) (ha : a = p.length) (hm : m = p.length + 1) (hb : b = p.length + 1 + B.length) (hs : SrtE B) (hl : L.length ≤ 100000) :
  CallA Tryz.prog 149 [.ow v, it a, it m, it b, .fn 46 []] [eR v L] fun r o => ∃ S, r = .tup [] ∧ o = [eR v (p ++ (S ++ q))] ∧ (x :: B).Perm S ∧ SrtE S := by
 have hll : L.length = p.length + 1 + B.length + q.length := by rw [hL];simp;omega
 have hLx : L[a]? = some x := by rw [hL];exact at_len ha
 refine CallA.of pg ord149 Tryz.func149 rfl Tryz.ntmps149 Tryz.results149 rfl fun h0 G0 O0 => ?_
 repeat' (first|refine Sp.h ?_|refine Lk.r rfl ?_|refine Rf.mk rfl ?_|refine xA ?_|refine xO ?_|fail)
 refine CA.loop (fun s : Nat × Nat => ⟨[(0, .ow v), (1, it a), (4, .fn 46 []), (10, it s.1), (11, it s.2)], [eR v L]⟩)
  (fun s => ∃ B1 B2 B3, B = B1 ++ (B2 ++ B3) ∧ s.1 = m + B1.length ∧ s.2 = m + B1.length + B2.length ∧ (∀ y ∈ B1, LtE y x) ∧ ∀ y ∈ B3, ¬ LtE y x) (fun s => s.2 - s.1) (m, b) xE ⟨[], B, [], by simp, by simp, by simp;omega, by simp, by simp⟩ ?_
 rintro ⟨i, j⟩ ⟨B1, B2, B3, h1, h2, h3, h4, h5⟩
 simp only at h2 h3
 simp only
 have hBl := congrArg List.length h1
 simp only [List.length_append] at hBl
 by_cases hij : i < j
 ·obtain ⟨C, D, rfl, hC⟩ := split_at B2 ((i + j) / 2 - i) (by omega)
  rw [List.length_append] at h3 hBl
  obtain ⟨y, D, rfl⟩ := List.exists_cons_of_ne_nil (l := D) (fun h => by subst h;simp at h3;omega)
  simp only [List.length_cons] at h3 hBl
  have e1 : ((i : Int) + (j : Int)) / 2 = (((i + j) / 2 : Nat) : Int) := by omega
  have hy : L[(i + j) / 2]? = some y := by
   have : L = (p ++ x :: (B1 ++ C)) ++ y :: (D ++ (B3 ++ q)) := by rw [hL, h1];simp
   rw [this];exact at_len (by simp;omega)
  rw [h1] at hs
  obtain ⟨-, hs2, -⟩ := List.pairwise_append.1 hs
  obtain ⟨hs3, -, -⟩ := List.pairwise_append.1 hs2
  obtain ⟨-, hs5, hs6⟩ := List.pairwise_append.1 hs3
  obtain ⟨hs7, -⟩ := List.pairwise_cons.1 hs5
  have hcm := cmpE_neg (a := y) (b := x)
  by_cases hlt : LtE y x
  ·have hc := hcm.2 hlt
   repeat' (first|refine Sp.h ?_|refine Lk.r rfl ?_|refine Rf.mk rfl ?_|refine xA ?_|refine OpK.r rfl ?_|refine xU ?_|refine xI ?_|refine xJ ?_|refine Ch.l ⟨rfl, rfl⟩ ?_|refine xD ?_|refine xO ?_|(apply Cvk.i64;(focus rfl);(focus omega))|(apply Cvk.u64;(focus rfl);(focus omega))|(apply Cl.p (order1_p _ _);focus repeat' constructor))
   refine PA.lp ((i + j) / 2 + 1, j) xE ⟨⟨B1 ++ (C ++ [y]), D, B3, by simp [h1], by simp;omega, by simp;omega, fun z hz => ?_, h5⟩, by simp only;omega⟩
   rcases List.mem_append.1 hz with hz|hz
   ·exact h4 z hz
   rcases List.mem_append.1 hz with hz|hz
   ·exact le_lt (hs6 z hz y (by simp)) hlt
   ·rw [List.mem_singleton.1 hz];exact hlt
  ·have hc : ¬ cmpE y x < 0 := fun h => hlt (hcm.1 h)
   repeat' (first|refine Sp.h ?_|refine Lk.r rfl ?_|refine Rf.mk rfl ?_|refine xA ?_|refine xB ?_|refine OpK.r rfl ?_|refine xU ?_|refine xI ?_|refine xJ ?_|refine Ch.l ⟨rfl, rfl⟩ ?_|refine xD ?_|refine xO ?_|(apply Cvk.i64;(focus rfl);(focus omega))|(apply Cvk.u64;(focus rfl);(focus omega))|(apply Cl.p (order1_p _ _);focus repeat' constructor))
   refine PA.lp (i, (i + j) / 2) xE ⟨⟨B1, C, y :: D ++ B3, by simp [h1], h2, by simp only;omega, h4, fun z hz => ?_⟩, by simp only;omega⟩
   rcases List.mem_append.1 hz with hz|hz
   ·rcases List.mem_cons.1 hz with rfl|hz
    ·exact hlt
    ·exact fun h => hs7 z hz (lt_le h hlt)
   ·exact h5 z hz
 ·have e2 : B2 = [] := List.eq_nil_of_length_eq_zero (by omega)
  subst e2
  repeat' (first|refine Sp.h ?_|refine Lk.r rfl ?_|refine Rf.mk rfl ?_|refine xB ?_|fail)
  refine CA.loop (fun s : Nat × List EvS => ⟨[(0, .ow v), (10, it i), (13, it s.1)], [eR v s.2]⟩)
   (fun s => ∃ C1 C2, B1 = C1 ++ C2 ∧ s.1 = (p ++ C1).length ∧ s.2 = (p ++ C1) ++ x :: (C2 ++ (B3 ++ q))) (fun s => i - s.1) (a, L) xE ⟨[], B1, rfl, by simpa using ha, by simp only;rw [hL, h1];simp⟩ ?_
  rintro ⟨k, D⟩ ⟨C1, C2, g1, g2, g3⟩
  simp only at g2 g3
  simp only
  have hC := congrArg List.length g1
  rw [List.length_append] at hC
  rw [List.length_append] at g2
  have hDl : D.length = L.length := by rw [g3, hll];simp only [List.length_append, List.length_cons];simp at hBl;omega
  by_cases hk : C2 = []
  ·subst hk
   have hki : k + 1 = i := by simp at hC;omega
   repeat' (first|refine Sp.h ?_|refine Lk.r rfl ?_|refine Rf.mk rfl ?_|refine xB ?_|refine xN ?_|refine xO ?_|fail)
   refine ⟨_, [eR v D], .tup (.z), B1 ++ x :: B3, rfl, by rw [g3, g1];simp, ?_, ?_⟩
   ·rw [h1];exact List.perm_middle.symm
   ·rw [h1] at hs
    obtain ⟨s1, s2, s3⟩ := List.pairwise_append.1 hs
    refine List.pairwise_append.2 ⟨s1, List.pairwise_cons.2 ⟨h5, s2⟩, fun s hs t ht => ?_⟩
    rcases List.mem_cons.1 ht with rfl|ht
    ·exact (h4 s hs).asymm
    ·exact s3 s hs t ht
  ·obtain ⟨y, C3, rfl⟩ := List.exists_cons_of_ne_nil hk
   simp only [List.length_cons] at hC
   have hk0 : k = (p ++ C1).length := by rw [List.length_append];exact g2
   have f2 : D = (p ++ C1 ++ [x]) ++ y :: (C3 ++ (B3 ++ q)) := by rw [g3];simp
   have hx1 : D[k]? = some x := by rw [g3];exact at_len hk0
   have hy1 : D[k + 1]? = some y := by rw [f2];exact at_len (by simp;omega)
   have hy2 : (D.set k y)[k + 1]? = some y := by rw [List.getElem?_set, if_neg (by omega), hy1]
   have hsw : (D.set k y).set (k + 1) x = (p ++ (C1 ++ [y])) ++ x :: (C3 ++ (B3 ++ q)) := by rw [g3, List.cons_append, swap_len hk0];simp
   repeat' (first|refine Sp.h ?_|refine Lk.r rfl ?_|refine Rf.mk rfl ?_|refine xA ?_|refine OpK.r rfl ?_|refine xU ?_|refine xI ?_|refine xJ ?_|refine Ch.l ⟨rfl, rfl⟩ ?_|(apply SetAsk.r;focus repeat' constructor)|refine Up.r rfl ?_|refine xD ?_|refine xO ?_|fail)
   all_goals exact PA.lp (k + 1, (D.set k y).set (k + 1) x) xE ⟨⟨C1 ++ [y], C3, by simp [g1], by simp;omega, hsw⟩, by simp only;omega⟩
set_option maxHeartbeats 4000000 in
theorem merge2_a (v : Value) (L p A q : List EvS) (y : EvS) (a m b : Nat) (hL : L = p ++ (A ++ y :: q)) (ha : a = p.length) (hm : m = p.length + A.length) (hb : b = p.length + A.length + 1) (hA : A.length ≠ 1) (hs : SrtE A) (hl : L.length ≤ 100000) :
  CallA Tryz.prog 149 [.ow v, it a, it m, it b, .fn 46 []] [eR v L] fun r o => ∃ S, r = .tup [] ∧ o = [eR v (p ++ (S ++ q))] ∧ (A ++ [y]).Perm S ∧ SrtE S := by
 have hll : L.length = p.length + A.length + 1 + q.length := by rw [hL];simp;omega
 have hLy : L[m]? = some y := by
  have : L = (p ++ A) ++ y :: q := by rw [hL];simp
  rw [this];exact at_len (by simp;omega)
 refine CallA.of pg ord149 Tryz.func149 rfl Tryz.ntmps149 Tryz.results149 rfl fun h0 G0 O0 => ?_
 repeat' (first|refine Sp.h ?_|refine Lk.r rfl ?_|refine Rf.mk rfl ?_|refine xA ?_|refine xB ?_|refine xO ?_|fail)
 refine CA.loop (fun s : Nat × Nat => ⟨[(0, .ow v), (2, it m), (4, .fn 46 []), (14, it s.1), (15, it s.2)], [eR v L]⟩)
  (fun s => ∃ A1 A2 A3, A = A1 ++ (A2 ++ A3) ∧ s.1 = a + A1.length ∧ s.2 = a + A1.length + A2.length ∧ (∀ x ∈ A1, ¬ LtE y x) ∧ ∀ x ∈ A3, LtE y x) (fun s => s.2 - s.1) (a, m) xE ⟨[], A, [], by simp, by simp, by simp;omega, by simp, by simp⟩ ?_
 rintro ⟨i, j⟩ ⟨A1, A2, A3, h1, h2, h3, h4, h5⟩
 simp only at h2 h3
 simp only
 have hAl := congrArg List.length h1
 simp only [List.length_append] at hAl
 by_cases hij : i < j
 ·obtain ⟨C, D, rfl, hC⟩ := split_at A2 ((i + j) / 2 - i) (by omega)
  rw [List.length_append] at h3 hAl
  obtain ⟨x, D, rfl⟩ := List.exists_cons_of_ne_nil (l := D) (fun h => by subst h;simp at h3;omega)
  simp only [List.length_cons] at h3 hAl
  have e1 : ((i : Int) + (j : Int)) / 2 = (((i + j) / 2 : Nat) : Int) := by omega
  have hx : L[(i + j) / 2]? = some x := by
   have : L = (p ++ (A1 ++ C)) ++ x :: (D ++ (A3 ++ y :: q)) := by rw [hL, h1];simp
   rw [this];exact at_len (by simp;omega)
  rw [h1] at hs
  obtain ⟨-, hs2, -⟩ := List.pairwise_append.1 hs
  obtain ⟨hs3, -, -⟩ := List.pairwise_append.1 hs2
  obtain ⟨-, hs5, hs6⟩ := List.pairwise_append.1 hs3
  obtain ⟨hs7, -⟩ := List.pairwise_cons.1 hs5
  have hcm := cmpE_neg (a := y) (b := x)
  by_cases hlt : LtE y x
  ·have hc := hcm.2 hlt
   repeat' (first|refine Sp.h ?_|refine Lk.r rfl ?_|refine Rf.mk rfl ?_|refine xA ?_|refine OpK.r rfl ?_|refine xU ?_|refine xI ?_|refine xJ ?_|refine Ch.l ⟨rfl, rfl⟩ ?_|refine xD ?_|refine xO ?_|(apply Cvk.i64;(focus rfl);(focus omega))|(apply Cvk.u64;(focus rfl);(focus omega))|(apply Cl.p (order1_p _ _);focus repeat' constructor))
   refine PA.lp (i, (i + j) / 2) xE ⟨⟨A1, C, x :: D ++ A3, by simp [h1], h2, by simp only;omega, h4, fun z hz => ?_⟩, by simp only;omega⟩
   rcases List.mem_append.1 hz with hz|hz
   ·rcases List.mem_cons.1 hz with rfl|hz
    ·exact hlt
    ·exact lt_le hlt (hs7 z hz)
   ·exact h5 z hz
  ·have hc : ¬ cmpE y x < 0 := fun h => hlt (hcm.1 h)
   repeat' (first|refine Sp.h ?_|refine Lk.r rfl ?_|refine Rf.mk rfl ?_|refine xA ?_|refine xB ?_|refine OpK.r rfl ?_|refine xU ?_|refine xI ?_|refine xJ ?_|refine Ch.l ⟨rfl, rfl⟩ ?_|refine xD ?_|refine xO ?_|(apply Cvk.i64;(focus rfl);(focus omega))|(apply Cvk.u64;(focus rfl);(focus omega))|(apply Cl.p (order1_p _ _);focus repeat' constructor))
   refine PA.lp ((i + j) / 2 + 1, j) xE ⟨⟨A1 ++ (C ++ [x]), D, A3, by simp [h1], by simp;omega, by simp;omega, fun z hz => ?_, h5⟩, by simp only;omega⟩
   rcases List.mem_append.1 hz with hz|hz
   ·exact h4 z hz
   rcases List.mem_append.1 hz with hz|hz
   ·exact le_le (hs6 z hz x (by simp)) hlt
   ·rw [List.mem_singleton.1 hz];exact hlt
 ·have e2 : A2 = [] := List.eq_nil_of_length_eq_zero (by omega)
  subst e2
  repeat' (first|refine Sp.h ?_|refine Lk.r rfl ?_|refine Rf.mk rfl ?_|refine xB ?_|fail)
  refine CA.loop (fun s : Nat × List EvS => ⟨[(0, .ow v), (14, it i), (17, it s.1)], [eR v s.2]⟩)
   (fun s => ∃ C1 C2, A3 = C1 ++ C2 ∧ s.1 = (p ++ A1 ++ C1).length ∧ s.2 = (p ++ A1 ++ C1) ++ y :: (C2 ++ q)) (fun s => s.1) (m, L) xE ⟨A3, [], by simp, by simp at hAl ⊢;omega, by simp only;rw [hL, h1];simp⟩ ?_
  rintro ⟨k, D⟩ ⟨C1, C2, g1, g2, g3⟩
  simp only at g2 g3
  simp only
  have hC := congrArg List.length g1
  rw [List.length_append] at hC
  have hDl : D.length = L.length := by rw [g3, hll];simp only [List.length_append, List.length_cons];simp at hAl;omega
  by_cases hk : C1 = []
  ·subst hk
   have hki : k = i := by simp at g2;omega
   repeat' (first|refine Sp.h ?_|refine Lk.r rfl ?_|refine Rf.mk rfl ?_|refine xB ?_|refine xN ?_|fail)
   refine ⟨_, [eR v D], .tup (.z), A1 ++ y :: A3, rfl, by rw [g3, g1];simp, ?_, ?_⟩
   ·rw [h1]
    refine (List.perm_append_singleton y _).trans ?_
    exact List.perm_middle.symm
   ·rw [h1] at hs
    obtain ⟨s1, s2, s3⟩ := List.pairwise_append.1 hs
    refine List.pairwise_append.2 ⟨s1, List.pairwise_cons.2 ⟨fun t ht => (h5 t ht).asymm, s2⟩, fun s hs t ht => ?_⟩
    rcases List.mem_cons.1 ht with rfl|ht
    ·exact h4 s hs
    ·exact s3 s hs t ht
  ·obtain ⟨C3, x, rfl⟩ := ne_snoc hk
   obtain ⟨k, rfl⟩ : ∃ k', k = k' + 1 := ⟨k - 1, by simp at g2;omega⟩
   have hk0 : k = (p ++ A1 ++ C3).length := by simp at g2 ⊢;omega
   have f2 : D = (p ++ A1 ++ C3) ++ x :: y :: (C2 ++ q) := by rw [g3];simp
   have hx1 : D[k]? = some x := by rw [f2];exact at_len hk0
   have hy1 : D[k + 1]? = some y := by rw [g3];exact at_len g2
   have hy2 : (D.set (k + 1) x)[k]? = some x := by rw [List.getElem?_set, if_neg (by omega), hx1]
   have e1 : ((k + 1 : Nat) : Int) - 1 = (k : Nat) := by omega
   have hgt : i < k + 1 := by simp at g2;omega
   have hkb : k + 1 ≤ 200000 := by have := (List.getElem?_eq_some_iff.1 hy1).1;omega
   have hsw : (D.set (k + 1) x).set k y = (p ++ A1 ++ C3) ++ y :: (x :: C2 ++ q) := by rw [f2, swap_len' hk0];simp
   repeat' (first|refine Sp.h ?_|refine Lk.r rfl ?_|refine Rf.mk rfl ?_|refine xA ?_|refine OpK.r rfl ?_|refine xU ?_|refine xI ?_|(apply Ix.r;(focus assumption);(focus omega))|refine xJ ?_|refine Ch.l ⟨rfl, rfl⟩ ?_|(apply SetAsk.r;focus repeat' constructor)|refine Up.r rfl ?_|refine xD ?_|refine xO ?_|(apply Ix.q;(focus assumption);(focus assumption))|fail)
   all_goals rw [e1]
   all_goals exact PA.lp (k, (D.set (k + 1) x).set k y) xE ⟨⟨C3, x :: C2, by simp [g1], hk0, hsw⟩, by simp only;omega⟩
end Go.Proofs.YtajenkpjcbaadaaGreat
namespace Go.Proofs.YtajenkpjcbaadaaGreat
open Go Go.CF
set_option maxRecDepth 20000
theorem perm4 {α : Type} (a b c d : List α) : ((a ++ b) ++ (c ++ d)).Perm ((a ++ c) ++ (b ++ d)) := by
 simp only [List.append_assoc]
 refine List.Perm.append_left a ?_
 rw [← List.append_assoc, ← List.append_assoc]
 exact List.Perm.append_right d List.perm_append_comm
theorem srt_mem {l : List EvS} (h : SrtE l) {i j : Nat} {x y : EvS} (hij : i ≤ j) (hx : l[i]? = some x) (hy : l[j]? = some y) : ¬ LtE y x := by
 rcases Nat.lt_or_ge i j with h1|h1
 ·obtain ⟨i1, rfl⟩ := List.getElem?_eq_some_iff.1 hx
  obtain ⟨j1, rfl⟩ := List.getElem?_eq_some_iff.1 hy
  exact List.pairwise_iff_getElem.1 h i j i1 j1 h1
 ·have : i = j := by omega
  subst this
  rw [hx] at hy;cases hy
  unfold LtE;omega
set_option maxHeartbeats 8000000 in
theorem symMerge_n : ∀ (N : Nat) (v : Value) (L p A B q : List EvS) (a m b : Nat), A.length + B.length ≤ N → L = p ++ (A ++ (B ++ q)) → a = p.length → m = p.length + A.length → b = p.length + A.length + B.length → 0 < A.length → 0 < B.length → SrtE A → SrtE B → L.length ≤ 100000 →
  CallA Tryz.prog 149 [.ow v, it a, it m, it b, .fn 46 []] [eR v L] fun r o => ∃ S, r = .tup [] ∧ o = [eR v (p ++ (S ++ q))] ∧ (A ++ B).Perm S ∧ SrtE S := by
 intro N
 induction N with
 | zero => intro v L p A B q a m b h0;omega
 | succ N ih =>
 intro v L p A B q a m b hN hL ha hm hb hA hB sA sB hl
 by_cases hA1 : A.length = 1
 ·obtain ⟨x, rfl⟩ := List.length_eq_one_iff.1 hA1
  exact merge1_a v L p B q x a m b (by simpa using hL) ha hm (by simpa using hb) sB hl
 by_cases hB1 : B.length = 1
 ·obtain ⟨y, rfl⟩ := List.length_eq_one_iff.1 hB1
  exact merge2_a v L p A q y a m b (by simpa using hL) ha hm (by simpa using hb) hA1 sA hl
 have hll : L.length = p.length + A.length + B.length + q.length := by rw [hL];simp;omega
 obtain ⟨mid, hmid⟩ : ∃ mid, mid = (a + b) / 2 := ⟨_, rfl⟩
 have e0 : ((a : Int) + (b : Int)) / 2 = ((mid : Nat) : Int) := by omega
 refine CallA.of pg ord149 Tryz.func149 rfl Tryz.ntmps149 Tryz.results149 rfl fun h0 G0 O0 => ?_
 (repeat' (first|(show CA _ _ (Code.cond (Operand.tmp 140) _ _) _ _;apply Stopped.out)|refine Sp.h ?_|refine Lk.r rfl ?_|refine Rf.mk rfl ?_|refine xB ?_|refine xO ?_|(apply Cvk.i64;(focus rfl);(focus omega))|(apply Cvk.u64;(focus rfl);(focus omega))|fail));any_goals apply Stopped.mk
 rw [e0]
 refine CA.cut (fun s : Nat × Nat => ⟨[(0, .ow v), (1, it a), (2, it m), (3, it b), (4, .fn 46 []), (18, it mid), (19, it ((mid : Int) + (m : Int))), (20, it s.1), (21, it s.2)], [eR v L]⟩) (fun s => mid < m ∧ s.1 = mid + m - b ∧ s.2 = mid ∨ m ≤ mid ∧ s.1 = a ∧ s.2 = m) ?_ ?_
 ·by_cases hc : mid < m
  ·have e1 : (mid : Int) + (m : Int) - (b : Int) = ((mid + m - b : Nat) : Int) := by omega
   repeat' (first|refine Sp.h ?_|refine Lk.r rfl ?_|refine Rf.mk rfl ?_|refine xA ?_|refine xO ?_|fail)
   rw [e1]
   exact PA.lp (mid + m - b, mid) xE (.inl ⟨hc, rfl, rfl⟩)
  ·repeat' (first|refine Sp.h ?_|refine Lk.r rfl ?_|refine Rf.mk rfl ?_|refine xB ?_|fail)
   exact PA.lp (a, m) xE (.inr ⟨by omega, rfl, rfl⟩)
 rintro ⟨s0, r0⟩ hs0
 simp only at hs0
 simp only
 -- what two places hold
 have hAx : ∀ c, a ≤ c → c < m → ∃ x, L[c]? = some x ∧ A[c - a]? = some x := fun c h1 h2 => by
  obtain ⟨x, hx⟩ := get_of (l := A) (i := c - a) (by omega)
  refine ⟨x, ?_, hx⟩
  rw [hL, List.getElem?_append_right (by omega), List.getElem?_append_left (by omega), ← ha];exact hx
 have hBx : ∀ c, m ≤ c → c < b → ∃ x, L[c]? = some x ∧ B[c - m]? = some x := fun c h1 h2 => by
  obtain ⟨x, hx⟩ := get_of (l := B) (i := c - m) (by omega)
  refine ⟨x, ?_, hx⟩
  rw [hL, List.getElem?_append_right (by omega), List.getElem?_append_right (by omega), List.getElem?_append_left (by omega), show c - p.length - A.length = c - m by omega];exact hx
 repeat' (first|refine Sp.h ?_|refine Lk.r rfl ?_|refine Rf.mk rfl ?_|refine xO ?_|fail)
 refine CA.loop (fun s : Nat × Nat => ⟨[(0, .ow v), (1, it a), (2, it m), (3, it b), (4, .fn 46 []), (18, it mid), (19, it ((mid : Int) + (m : Int))), (20, it s.1), (21, it s.2), (22, it ((mid : Int) + (m : Int) - 1))], [eR v L]⟩)
  (fun s => s0 ≤ s.1 ∧ s.1 ≤ s.2 ∧ s.2 ≤ r0 ∧ (s.1 = s0 ∨ ∃ x y, A[s.1 - 1 - a]? = some x ∧ B[mid + m - s.1 - m]? = some y ∧ ¬ LtE y x) ∧ (s.2 = r0 ∨ ∃ x y, A[s.2 - a]? = some x ∧ B[mid + m - 1 - s.2 - m]? = some y ∧ LtE y x)) (fun s => s.2 - s.1) (s0, r0) xE ⟨Nat.le_refl _, by simp only;omega, Nat.le_refl _, .inl rfl, .inl rfl⟩ ?_
 rintro ⟨s, r⟩ ⟨g1, g2, g3, g4, g5⟩
 simp only at g1 g2 g3 g4 g5
 simp only
 by_cases hsr : s < r
 ·obtain ⟨x, hx, hxA⟩ := hAx ((s + r) / 2) (by omega) (by omega)
  obtain ⟨y, hy, hyB⟩ := hBx (mid + m - 1 - (s + r) / 2) (by omega) (by omega)
  have e1 : ((s : Int) + (r : Int)) / 2 = (((s + r) / 2 : Nat) : Int) := by omega
  have e2 : (mid : Int) + (m : Int) - 1 - ((s : Int) + (r : Int)) / 2 = ((mid + m - 1 - (s + r) / 2 : Nat) : Int) := by omega
  have hcm := cmpE_neg (a := y) (b := x)
  by_cases hlt : LtE y x
  ·have hc := hcm.2 hlt
   repeat' (first|refine Sp.h ?_|refine Lk.r rfl ?_|refine Rf.mk rfl ?_|refine xA ?_|refine OpK.r rfl ?_|refine xU ?_|refine xI ?_|(apply Ix.r;(focus assumption);(focus omega))|refine xJ ?_|refine Ch.l ⟨rfl, rfl⟩ ?_|refine xD ?_|refine xO ?_|(apply Cvk.i64;(focus rfl);(focus omega))|(apply Cvk.u64;(focus rfl);(focus omega))|(apply Cl.p (order1_p _ _);focus repeat' constructor))
   exact PA.lp (s, (s + r) / 2) xE ⟨⟨g1, by simp only;omega, by simp only;omega, g4, .inr ⟨x, y, hxA, hyB, hlt⟩⟩, by simp only;omega⟩
  ·have hc : ¬ cmpE y x < 0 := fun h => hlt (hcm.1 h)
   repeat' (first|refine Sp.h ?_|refine Lk.r rfl ?_|refine Rf.mk rfl ?_|refine xA ?_|refine xB ?_|refine OpK.r rfl ?_|refine xU ?_|refine xI ?_|(apply Ix.r;(focus assumption);(focus omega))|refine xJ ?_|refine Ch.l ⟨rfl, rfl⟩ ?_|refine xD ?_|refine xO ?_|(apply Cvk.i64;(focus rfl);(focus omega))|(apply Cvk.u64;(focus rfl);(focus omega))|(apply Cl.p (order1_p _ _);focus repeat' constructor))
   exact PA.lp ((s + r) / 2 + 1, r) xE ⟨⟨by simp only;omega, by simp only;omega, g3, .inr ⟨x, y, by simp only;rw [show (s + r) / 2 + 1 - 1 = (s + r) / 2 by omega];exact hxA, by simp only;rw [show mid + m - ((s + r) / 2 + 1) - m = mid + m - 1 - (s + r) / 2 - m by omega];exact hyB, hlt⟩, g5⟩, by simp only;omega⟩
 have hsre : s = r := by omega
 subst hsre
 obtain ⟨E, hE⟩ : ∃ E, E = mid + m - s := ⟨_, rfl⟩
 have e3 : (mid : Int) + (m : Int) - (s : Int) = ((E : Nat) : Int) := by omega
 obtain ⟨A1, A2, hA12, lA1⟩ := split_at A (s - a) (by omega)
 obtain ⟨B1, B2, hB12, lB1⟩ := split_at B (E - m) (by omega)
 have lA := congrArg List.length hA12
 have lB := congrArg List.length hB12
 rw [List.length_append] at lA lB
 have c1 : ∀ x ∈ A1, ∀ y ∈ B2, ¬ LtE y x := fun x hx y hy => by
  obtain ⟨i, hi⟩ := List.getElem?_of_mem hx
  obtain ⟨j, hj⟩ := List.getElem?_of_mem hy
  have hi1 := (List.getElem?_eq_some_iff.1 hi).1
  have hj1 := (List.getElem?_eq_some_iff.1 hj).1
  have hi2 : A[i]? = some x := by rw [hA12, List.getElem?_append_left hi1];exact hi
  have hj2 : B[B1.length + j]? = some y := by rw [hB12, List.getElem?_append_right (by omega), Nat.add_sub_cancel_left];exact hj
  rcases g4 with h|⟨u, w, hu, hw, huw⟩
  ·rcases hs0 with ⟨h2, h3, h4⟩|⟨h2, h3, h4⟩ <;> omega
  ·have k1 := srt_mem sA (i := i) (j := s - 1 - a) (by omega) hi2 hu
   have k2 := srt_mem sB (i := mid + m - s - m) (j := B1.length + j) (by omega) hw hj2
   unfold LtE at *;omega
 have c2 : ∀ x ∈ A2, ∀ y ∈ B1, LtE y x := fun x hx y hy => by
  obtain ⟨i, hi⟩ := List.getElem?_of_mem hx
  obtain ⟨j, hj⟩ := List.getElem?_of_mem hy
  have hi1 := (List.getElem?_eq_some_iff.1 hi).1
  have hj1 := (List.getElem?_eq_some_iff.1 hj).1
  have hi2 : A[A1.length + i]? = some x := by rw [hA12, List.getElem?_append_right (by omega), Nat.add_sub_cancel_left];exact hi
  have hj2 : B[j]? = some y := by rw [hB12, List.getElem?_append_left hj1];exact hj
  rcases g5 with h|⟨u, w, hu, hw, huw⟩
  ·rcases hs0 with ⟨h2, h3, h4⟩|⟨h2, h3, h4⟩ <;> omega
  ·have k1 := srt_mem sA (i := s - a) (j := A1.length + i) (by omega) hu hi2
   have k2 := srt_mem sB (i := j) (j := mid + m - 1 - s - m) (by omega) hj2 hw
   unfold LtE at *;omega
 rw [hA12] at sA
 rw [hB12] at sB
 obtain ⟨sA1, sA2, sA3⟩ := List.pairwise_append.1 sA
 obtain ⟨sB1, sB2, sB3⟩ := List.pairwise_append.1 sB
 obtain ⟨L2, hL2⟩ : ∃ L2, L2 = p ++ (A1 ++ (B1 ++ (A2 ++ (B2 ++ q)))) := ⟨_, rfl⟩
 have hL1 : L = (p ++ A1) ++ (A2 ++ (B1 ++ (B2 ++ q))) := by rw [hL, hA12, hB12];simp
 have hL2l : L2.length = L.length := by rw [hL2, hll];simp only [List.length_append];omega
 (repeat' (first|(show CA _ _ (Code.region 39 _ _) _ _;apply Stopped.out)|refine Sp.h ?_|refine Lk.r rfl ?_|refine Rf.mk rfl ?_|refine xB ?_|refine xO ?_|fail));any_goals apply Stopped.mk
 rw [e3]
 refine CA.cut (fun c : Bool => ⟨[(0, .ow v), (1, it a), (2, it m), (3, it b), (4, .fn 46 []), (18, it mid), (20, it s), (24, it E), (185, bl c)], [eR v L]⟩) (fun c => c = true ↔ s < m ∧ m < E) ?_ ?_
 ·repeat' (first|refine Sp.h ?_|refine Lk.r rfl ?_|refine Rf.mk rfl ?_|refine xA ?_|refine xB ?_|(refine Bd.mk ?_ ?_ <;> intro _)|fail)
  all_goals exact PA.lp _ xE (by simp;omega)
 rintro c hc
 simp only
 refine Sp.h ?_
 refine CA.cut (fun _ : Unit => ⟨[(0, .ow v), (1, it a), (2, it m), (3, it b), (4, .fn 46 []), (18, it mid), (20, it s), (24, it E)], [eR v L2]⟩) (fun _ => True) ?_ ?_
 ·cases c
  ·have hn : ¬ (s < m ∧ m < E) := fun h => by have := hc.2 h;cases this
   have hLL : L = L2 := by
    rw [hL1, hL2]
    by_cases h : m ≤ s
    ·have : A2 = [] := List.eq_nil_of_length_eq_zero (by omega)
     subst this;simp
    ·have : B1 = [] := List.eq_nil_of_length_eq_zero (by omega)
     subst this;simp
   repeat' (first|refine Sp.h ?_|refine Lk.r rfl ?_|fail)
   rw [hLL]
   exact PA.lp () xE trivial
  ·have hy := hc.1 rfl
   have hro := rotate_a v L (p ++ A1) A2 B1 (B2 ++ q) s m E hL1 (by rw [List.length_append];omega) (by rw [List.length_append];omega) (by rw [List.length_append];omega) (by omega) (by omega) hl
   have hLL : p ++ A1 ++ (B1 ++ (A2 ++ (B2 ++ q))) = L2 := by rw [hL2];simp
   rw [hLL] at hro
   repeat' (first|refine Sp.h ?_|refine Lk.r rfl ?_|refine Rf.mk rfl ?_|fail)
   refine xW (hro) ?_
   rintro _ _ ⟨rfl, rfl⟩
   repeat' (first|refine Sp.h ?_|fail)
   exact PA.lp () xE trivial
 rintro ⟨⟩ -
 simp only
 (repeat' (first|(show CA _ _ (Code.region 41 _ _) _ _;apply Stopped.out)|refine Sp.h ?_|fail));any_goals apply Stopped.mk
 refine CA.cut (fun c : Bool => ⟨[(0, .ow v), (1, it a), (2, it m), (3, it b), (4, .fn 46 []), (18, it mid), (20, it s), (24, it E), (199, bl c)], [eR v L2]⟩) (fun c => c = true ↔ a < s ∧ s < mid) ?_ ?_
 ·repeat' (first|refine Sp.h ?_|refine Lk.r rfl ?_|refine Rf.mk rfl ?_|refine xA ?_|refine xB ?_|(refine Bd.mk ?_ ?_ <;> intro _)|fail)
  all_goals exact PA.lp _ xE (by simp;omega)
 rintro c hc
 simp only
 refine Sp.h ?_
 refine CA.cut (fun S1 : List EvS => ⟨[(0, .ow v), (3, it b), (4, .fn 46 []), (18, it mid), (24, it E)], [eR v (p ++ (S1 ++ (A2 ++ (B2 ++ q))))]⟩) (fun S1 => (A1 ++ B1).Perm S1 ∧ SrtE S1) ?_ ?_
 ·cases c
  ·have hn : ¬ (a < s ∧ s < mid) := fun h => by have := hc.2 h;cases this
   have hLL : L2 = p ++ ((A1 ++ B1) ++ (A2 ++ (B2 ++ q))) := by rw [hL2];simp
   have hss : SrtE (A1 ++ B1) := by
    by_cases h : s ≤ a
    ·have : A1 = [] := List.eq_nil_of_length_eq_zero (by omega)
     subst this;simpa using sB1
    ·have : B1 = [] := List.eq_nil_of_length_eq_zero (by omega)
     subst this;simpa using sA1
   repeat' (first|refine Sp.h ?_|refine Lk.r rfl ?_|fail)
   rw [hLL]
   exact PA.lp (A1 ++ B1) xE ⟨List.Perm.refl _, hss⟩
  ·have hy := hc.1 rfl
   have hre := ih v L2 p A1 B1 (A2 ++ (B2 ++ q)) a s mid (by omega) hL2 ha (by omega) (by omega) (by omega) (by omega) sA1 sB1 (by omega)
   repeat' (first|refine Sp.h ?_|refine Lk.r rfl ?_|refine Rf.mk rfl ?_|fail)
   refine xW (hre) ?_
   rintro _ _ ⟨S1, rfl, rfl, h1, h2⟩
   repeat' (first|refine Sp.h ?_|fail)
   exact PA.lp S1 xE ⟨h1, h2⟩
 rintro S1 ⟨p1, s1⟩
 simp only
 have l1 := p1.length_eq
 rw [List.length_append] at l1
 (repeat' (first|(show CA _ _ (Code.region 43 _ _) _ _;apply Stopped.out)|refine Sp.h ?_|fail));any_goals apply Stopped.mk
 refine CA.cut (fun c : Bool => ⟨[(0, .ow v), (3, it b), (4, .fn 46 []), (18, it mid), (24, it E), (213, bl c)], [eR v (p ++ (S1 ++ (A2 ++ (B2 ++ q))))]⟩) (fun c => c = true ↔ mid < E ∧ E < b) ?_ ?_
 ·repeat' (first|refine Sp.h ?_|refine Lk.r rfl ?_|refine Rf.mk rfl ?_|refine xA ?_|refine xB ?_|(refine Bd.mk ?_ ?_ <;> intro _)|fail)
  all_goals exact PA.lp _ xE (by simp;omega)
 rintro c hc
 simp only
 have hfin : ∀ S2, (A2 ++ B2).Perm S2 → SrtE S2 → (A ++ B).Perm (S1 ++ S2) ∧ SrtE (S1 ++ S2) := fun S2 p2 s2 => by
  refine ⟨?_, List.pairwise_append.2 ⟨s1, s2, fun x hx y hy => ?_⟩⟩
  ·rw [hA12, hB12]
   exact (perm4 A1 A2 B1 B2).trans (List.Perm.append p1 p2)
  ·have hx := p1.mem_iff.2 hx
   have hy := p2.mem_iff.2 hy
   rcases List.mem_append.1 hx with hx|hx <;> rcases List.mem_append.1 hy with hy|hy
   ·exact sA3 x hx y hy
   ·exact c1 x hx y hy
   ·exact (c2 y hy x hx).asymm
   ·exact sB3 x hx y hy
 cases c
 ·have hn : ¬ (mid < E ∧ E < b) := fun h => by have := hc.2 h;cases this
  have hss : SrtE (A2 ++ B2) := by
   by_cases h : E ≤ mid
   ·have : A2 = [] := List.eq_nil_of_length_eq_zero (by omega)
    subst this;simpa using sB2
   ·have : B2 = [] := List.eq_nil_of_length_eq_zero (by omega)
    subst this;simpa using sA2
  repeat' (first|refine Sp.h ?_|refine Lk.r rfl ?_|refine xN ?_|fail)
  refine ⟨_, [eR v (p ++ (S1 ++ (A2 ++ (B2 ++ q))))], .tup (.z), S1 ++ (A2 ++ B2), rfl, by simp, hfin _ (List.Perm.refl _) hss⟩
 ·have hy := hc.1 rfl
  have hre := ih v (p ++ (S1 ++ (A2 ++ (B2 ++ q)))) (p ++ S1) A2 B2 q mid E b (by omega) (by simp) (by rw [List.length_append];omega) (by rw [List.length_append];omega) (by rw [List.length_append];omega) (by omega) (by omega) sA2 sB2 (by simp only [List.length_append];omega)
  repeat' (first|refine Sp.h ?_|refine Lk.r rfl ?_|refine Rf.mk rfl ?_|fail)
  refine xW (hre) ?_
  rintro _ _ ⟨S2, rfl, rfl, h1, h2⟩
  repeat' (first|refine Sp.h ?_|refine xN ?_|fail)
  refine ⟨_, [eR v (p ++ S1 ++ (S2 ++ q))], .tup (.z), S1 ++ S2, rfl, by simp, hfin _ h1 h2⟩
end Go.Proofs.YtajenkpjcbaadaaGreat
namespace Go.Proofs.YtajenkpjcbaadaaGreat
open Go Go.CF
set_option maxRecDepth 20000
theorem pw_uniq {α : Type} {R : α → α → Prop} (has : ∀ a b, R a b → ¬ R b a) : ∀ s t : List α, s.Pairwise R → t.Pairwise R → (∀ x, x ∈ s ↔ x ∈ t) → s = t := by
 intro s
 induction s with
 | nil =>
  intro t _ _ h
  cases t with
  | nil => rfl
  | cons b t => exact absurd ((h b).2 (by simp)) (by simp)
 | cons a s ih =>
  intro t hs ht h
  cases t with
  | nil => exact absurd ((h a).1 (by simp)) (by simp)
  | cons b t =>
   obtain ⟨h1, h2⟩ := List.pairwise_cons.1 hs
   obtain ⟨h3, h4⟩ := List.pairwise_cons.1 ht
   have hab : a = b := by
    rcases List.mem_cons.1 ((h a).1 (by simp)) with e|e
    ·exact e
    ·rcases List.mem_cons.1 ((h b).2 (by simp)) with e2|e2
     ·exact e2.symm
     ·exact absurd (h3 a e) (has _ _ (h1 b e2))
   subst hab
   rw [ih t h2 h4 fun x => ?_]
   have := h x
   simp only [List.mem_cons] at this
   constructor
   ·intro hx
    rcases this.1 (.inr hx) with e|e
    ·subst e;exact absurd (h1 _ hx) (fun h9 => has _ _ h9 h9)
    ·exact e
   ·intro hx
    rcases this.2 (.inr hx) with e|e
    ·subst e;exact absurd (h3 _ hx) (fun h9 => has _ _ h9 h9)
    ·exact e
theorem LtK_asymm (a b : MkS) : LtK a b → ¬ LtK b a := by unfold LtK;omega
end Go.Proofs.YtajenkpjcbaadaaGreat
namespace Go.Proofs.YtajenkpjcbaadaaGreat
open Go Go.CF
set_option maxRecDepth 20000
theorem symMerge_a (v : Value) (L p A B q : List EvS) (a m b : Int) (hL : L = p ++ (A ++ (B ++ q))) (ha : a = p.length) (hm : m = p.length + A.length) (hb : b = p.length + A.length + B.length) (hA : 0 < A.length) (hB : 0 < B.length) (sA : SrtE A) (sB : SrtE B) (hl : L.length ≤ 100000) :
  CallA Tryz.prog 149 [.ow v, it a, it m, it b, .fn 46 []] [eR v L] fun r o => ∃ S, r = .tup [] ∧ o = [eR v (p ++ (S ++ q))] ∧ (A ++ B).Perm S ∧ SrtE S := by
 obtain ⟨A', rfl⟩ : ∃ A : Nat, a = A := ⟨_, ha⟩
 obtain ⟨M, rfl⟩ : ∃ M : Nat, m = M := ⟨p.length + A.length, by omega⟩
 obtain ⟨B', rfl⟩ : ∃ B : Nat, b = B := ⟨p.length + A.length + B.length, by omega⟩
 exact symMerge_n _ v L p A B q A' M B' (Nat.le_refl _) hL (by omega) (by omega) (by omega) hA hB sA sB hl
inductive Bks (w : Nat) : List EvS → Prop
 | last {l : List EvS} : l.length ≤ w → SrtE l → Bks w l
 | cons {c l : List EvS} : c.length = w → SrtE c → Bks w l → Bks w (c ++ l)
theorem Bks.one {w : Nat} {l : List EvS} (h : Bks w l) (hl : l.length ≤ w) : SrtE l := by
 cases h with
 | last _ h => exact h
 | @cons c l h1 h2 _ =>
  rw [List.length_append] at hl
  have : l = [] := List.eq_nil_of_length_eq_zero (by omega)
  subst this;simpa using h2
theorem Bks.two {w : Nat} {l : List EvS} (h : Bks w l) (hl : w < l.length) : ∃ c m, l = c ++ m ∧ c.length = w ∧ SrtE c ∧ Bks w m := by
 cases h with
 | last h _ => omega
 | @cons c l h1 h2 h3 => exact ⟨c, l, rfl, h1, h2, h3⟩
set_option maxHeartbeats 4000000 in
theorem stable_a (v : Value) (L : List EvS) (hl : L.length ≤ 10000) :
  CallA Tryz.prog 97 [.ow v, it (L.length : Nat), .fn 46 []] [eR v L] fun r o => ∃ S, r = .tup [] ∧ o = [eR v S] ∧ L.Perm S ∧ SrtE S := by
 obtain ⟨n, hn⟩ : ∃ n, n = L.length := ⟨_, rfl⟩
 rw [← hn]
 refine CallA.of pg ord97 Tryz.func97 rfl Tryz.ntmps97 Tryz.results97 rfl fun h0 G0 O0 => ?_
 repeat' (first|refine Sp.h ?_|refine Lk.r rfl ?_|refine Rf.mk rfl ?_|fail)
 refine CA.loop (fun s : Nat × List EvS => ⟨[(0, .ow v), (1, it n), (2, .fn 46 []), (6, it 20), (7, it s.1), (8, it ((s.1 + 20 : Nat) : Int))], [eR v s.2]⟩)
  (fun s => ∃ P R, s.2 = P ++ R ∧ s.1 = P.length ∧ L.Perm s.2 ∧ ∀ Q, Bks 20 Q → Bks 20 (P ++ Q)) (fun s => n - s.1) (0, L) xE ⟨[], L, rfl, rfl, List.Perm.refl _, fun Q h => h⟩ ?_
 rintro ⟨a, D⟩ ⟨P, R, h1, h2, h3, h4⟩
 simp only at h1 h2 h3
 simp only
 have hDl := h3.length_eq
 have hPR := congrArg List.length h1
 rw [List.length_append] at hPR
 by_cases han : a + 20 ≤ n
 ·obtain ⟨A, R', rfl, hA⟩ := split_at R 20 (by omega)
  have hin := insSort_a v D P A R' a ((a + 20 : Nat) : Int) (by rw [h1];simp) (by omega) (by omega) (by omega)
  repeat' (first|refine Sp.h ?_|refine Lk.r rfl ?_|refine Rf.mk rfl ?_|refine xA ?_|fail)
  refine xW (hin) ?_
  rintro _ _ ⟨L', S, rfl, rfl, g1, g2, g3⟩
  have hSl := g2.length_eq
  repeat' (first|refine Sp.h ?_|refine Lk.r rfl ?_|refine Rf.mk rfl ?_|refine xO ?_|fail)
  refine PA.lp (a + 20, L') xE ⟨⟨P ++ S, R', g1, by simp;omega, h3.trans ?_, fun Q hQ => ?_⟩, by simp only;omega⟩
  ·simp only
   rw [h1, g1, ← List.append_assoc]
   exact List.Perm.append_right R' (List.Perm.append_left P g2)
  ·rw [List.append_assoc]
   exact h4 _ (.cons (by omega) g3 hQ)
 have hin := insSort_a v D P R [] a n (by rw [h1];simp) (by omega) (by omega) (by omega)
 repeat' (first|refine Sp.h ?_|refine Lk.r rfl ?_|refine Rf.mk rfl ?_|refine xB ?_|fail)
 refine xW (hin) ?_
 rintro _ _ ⟨L', S, rfl, rfl, g1, g2, g3⟩
 have hSl := g2.length_eq
 have hB : Bks 20 L' := by rw [g1, List.append_nil];exact h4 _ (.last (by omega) g3)
 have hP' : L.Perm L' := h3.trans (by rw [h1, g1, List.append_nil];exact List.Perm.append_left P g2)
 repeat' (first|refine Sp.h ?_|fail)
 refine CA.loop (fun s : Nat × List EvS => ⟨[(0, .ow v), (1, it n), (2, .fn 46 []), (6, it s.1)], [eR v s.2]⟩)
  (fun s => 0 < s.1 ∧ s.1 ≤ 20000 ∧ L.Perm s.2 ∧ Bks s.1 s.2) (fun s => n - s.1) (20, L') xE ⟨by simp only;omega, by simp only;omega, hP', hB⟩ ?_
 clear h1 h2 h3 h4 hDl hPR han hin g1 g2 g3 hSl hB hP'
 clear S P R a D L'
 rintro ⟨w, D⟩ ⟨h1, h2, h3, h4⟩
 simp only at h1 h2 h3 h4
 simp only
 have hDl := h3.length_eq
 by_cases hwn : w < n
 rotate_left
 ·repeat' (first|refine Sp.h ?_|refine Lk.r rfl ?_|refine Rf.mk rfl ?_|refine xB ?_|refine xN ?_|fail)
  exact ⟨_, [eR v D], .tup (.z), D, rfl, rfl, h3, h4.one (by omega)⟩
 repeat' (first|refine Sp.h ?_|refine Lk.r rfl ?_|refine Rf.mk rfl ?_|refine xA ?_|refine xP ?_|fail)
 refine CA.loop (fun s : Nat × Nat × List EvS => ⟨[(0, .ow v), (1, it n), (2, .fn 46 []), (6, it w), (7, it s.1), (8, it s.2.1)], [eR v s.2.2]⟩)
  (fun s => s.2.1 = s.1 + 2 * w ∧ ∃ P R, s.2.2 = P ++ R ∧ s.1 = P.length ∧ L.Perm s.2.2 ∧ Bks w R ∧ ∀ Q, Bks (2 * w) Q → Bks (2 * w) (P ++ Q)) (fun s => n - s.1) (0, 2 * w, D) xE ⟨by simp, [], D, rfl, rfl, h3, h4, fun Q h => h⟩ ?_
 clear h3 h4 hDl
 clear D
 rintro ⟨a, b, D⟩ ⟨hb, P, R, g1, g2, g3, g4, g5⟩
 simp only at hb g1 g2 g3
 subst hb
 simp only
 have hDl := g3.length_eq
 have hPR := congrArg List.length g1
 rw [List.length_append] at hPR
 by_cases han : a + 2 * w ≤ n
 ·obtain ⟨c1, R1, rfl, k1, k2, k3⟩ := g4.two (by omega)
  rw [List.length_append] at hPR
  have hk : ∃ c2 R2, R1 = c2 ++ R2 ∧ c2.length = w ∧ SrtE c2 ∧ Bks w R2 := by
   by_cases h : w < R1.length
   ·exact k3.two h
   ·exact ⟨R1, [], by simp, by omega, k3.one (by omega), .last (by simp) List.Pairwise.nil⟩
  obtain ⟨c2, R2, rfl, k4, k5, k6⟩ := hk
  have hsm := symMerge_a v D P c1 c2 R2 a ((a : Int) + (w : Int)) ((a + 2 * w : Nat) : Int) g1 (by omega) (by omega) (by omega) (by omega) (by omega) k2 k5 (by omega)
  repeat' (first|refine Sp.h ?_|refine Lk.r rfl ?_|refine Rf.mk rfl ?_|refine xA ?_|refine xO ?_|fail)
  refine xW (hsm) ?_
  rintro _ _ ⟨S, rfl, rfl, p1, p2⟩
  have hSl := p1.length_eq
  rw [List.length_append] at hSl
  repeat' (first|refine Sp.h ?_|refine Lk.r rfl ?_|refine Rf.mk rfl ?_|refine xP ?_|refine xO ?_|fail)
  refine PA.lp (a + 2 * w, a + 2 * w + 2 * w, P ++ (S ++ R2)) xE ⟨⟨rfl, P ++ S, R2, by simp, by simp;omega, g3.trans ?_, k6, fun Q hQ => ?_⟩, by simp only;omega⟩
  ·simp only
   rw [g1]
   refine List.Perm.append_left P ?_
   rw [← List.append_assoc]
   exact List.Perm.append_right R2 p1
  ·rw [List.append_assoc]
   exact g5 _ (.cons (by omega) p2 hQ)
 ·by_cases hmn : a + w < n
  ·obtain ⟨c1, R1, rfl, k1, k2, k3⟩ := g4.two (by omega)
   rw [List.length_append] at hPR
   have hsm := symMerge_a v D P c1 R1 [] a ((a : Int) + (w : Int)) n (by rw [g1];simp) (by omega) (by omega) (by omega) (by omega) (by omega) k2 (k3.one (by omega)) (by omega)
   repeat' (first|refine Sp.h ?_|refine Lk.r rfl ?_|refine Rf.mk rfl ?_|refine xA ?_|refine xB ?_|refine xO ?_|fail)
   refine xW (hsm) ?_
   rintro _ _ ⟨S, rfl, rfl, p1, p2⟩
   have hSl := p1.length_eq
   rw [List.length_append] at hSl
   repeat' (first|refine Sp.h ?_|refine Lk.r rfl ?_|refine Rf.mk rfl ?_|refine xP ?_|fail)
   refine PA.lp (w * 2, P ++ (S ++ [])) xE ⟨⟨by simp only;omega, by simp only;omega, ?_, ?_⟩, by simp only;omega⟩
   ·simp only
    rw [List.append_nil]
    exact g3.trans (by rw [g1];exact List.Perm.append_left P p1)
   ·simp only
    rw [List.append_nil, Nat.mul_comm]
    exact g5 _ (.last (by omega) p2)
  ·repeat' (first|refine Sp.h ?_|refine Lk.r rfl ?_|refine Rf.mk rfl ?_|refine xB ?_|refine xP ?_|refine xO ?_|fail)
   refine PA.lp (w * 2, D) xE ⟨⟨by simp only;omega, by simp only;omega, g3, ?_⟩, by simp only;omega⟩
   simp only
   rw [g1, Nat.mul_comm]
   exact g5 _ (.last (by omega) (g4.one (by omega)))
theorem sortStable_a (v : Value) (L : List EvS) (hl : L.length ≤ 10000) :
  CallA Tryz.prog 45 [.ow v, .fn 46 []] [eR v L] fun r o => ∃ S, r = .tup [] ∧ o = [eR v S] ∧ L.Perm S ∧ SrtE S := by
 have h := stable_a v L hl
 refine CallA.of pg ord45 Tryz.func45 rfl Tryz.ntmps45 Tryz.results45 rfl fun h0 G0 O0 => ?_
 repeat' (first|refine Sp.h ?_|refine Lk.r rfl ?_|refine Rf.mk rfl ?_|refine xU ?_|fail)
 refine xW (h) ?_
 rintro _ _ ⟨S, rfl, rfl, h1, h2⟩
 repeat' (first|refine Sp.h ?_|refine xN ?_|fail)
 exact ⟨_, [eR v S], .tup (.z), S, rfl, rfl, h1, h2⟩
theorem cloneE_o (l : List EvS) (hl : l.length ≤ 1000000000) : CallO Tryz.prog 44 [evs l] 40 13 l evC := by
 refine CallA.of pg ord44 Tryz.func44 rfl Tryz.ntmps44 Tryz.results44 rfl fun h0 G0 O0 => ?_
 repeat' (first|refine Sp.h ?_|refine Lk.r rfl ?_|refine Rf.mk rfl ?_|(refine Bd.mk ?_ ?_ <;> intro _)|refine xP ?_|refine Im.mk fun _=>?_|refine All.mk fun _=>?_|refine xU ?_|refine Ce.l rfl ?_|(apply Fk.r;focus repeat' first|infer_instance|constructor)|refine xN ?_|refine Rf.mk ⟨rfl, rfl⟩ ?_|refine Rf.mk ⟨rfl, rfl, rfl⟩ ?_|refine Mp.same ?_|fail)
 ·rename_i b hb hbt
  have hl0 : l = [] := Decidable.byContradiction fun h => by rw [hb h] at hbt;cases hbt
  subst hl0
  exact ⟨_, _, .one (.nils (.z)), _, rfl, rfl⟩
 ·repeat' (first|fail)
  exact ⟨_, _, .one (.same (.z)), _, rfl, rfl⟩
noncomputable def ordE (l : List EvS) : List EvS := l.mergeSort fun a b => decide (¬ LtE b a)
theorem ordE_perm (l : List EvS) : l.Perm (ordE l) := (List.mergeSort_perm _ _).symm
theorem ordE_srt (l : List EvS) : SrtE (ordE l) := by
 have := List.pairwise_mergeSort (le := fun a b : EvS => decide (¬ LtE b a)) (fun a b c h1 h2 => by simp [LtE] at *;omega) (fun a b => by simp [LtE];omega) l
 exact this.imp fun h => by simpa using h
theorem srt_lt {l : List EvS} (hu : Uniq l) {S : List EvS} (hp : l.Perm S) (hs : SrtE S) : S.Pairwise LtE := by
 have hu1 : l.Pairwise fun a b => nm a ≠ nm b := by
  rw [List.pairwise_iff_getElem]
  intro i j hi hj hij h
  have := hu i j _ _ (List.getElem?_eq_getElem hi) (List.getElem?_eq_getElem hj) h
  omega
 have hu2 : S.Pairwise fun a b => nm a ≠ nm b := hp.pairwise hu1 (fun h => h.symm)
 refine (hs.and hu2).imp fun ⟨h1, h2⟩ => ?_
 simp only [nm, ne_eq, List.cons.injEq, and_true] at h2
 unfold LtE at *
 omega
theorem ordE_uniq {l S : List EvS} (hu : Uniq l) (hp : l.Perm S) (hs : SrtE S) : S = ordE l :=
 pw_uniq (fun _ _ => LtE.asymm) _ _ (srt_lt hu hp hs) (srt_lt hu (ordE_perm l) (ordE_srt l)) fun _ => (hp.mem_iff).symm.trans (ordE_perm l).mem_iff
theorem order_o (l : List EvS) (hu : Uniq l) (hl : l.length ≤ 10000) : CallO Tryz.prog 11 [evs l] 40 13 (ordE l) evC := by
 have hc := cloneE_o l (by omega)
 refine CallA.of pg ord11 Tryz.func11 rfl Tryz.ntmps11 Tryz.results11 rfl fun h0 G0 O0 => ?_
 repeat' (first|refine Sp.h ?_|refine Lk.r rfl ?_|refine Rf.mk rfl ?_|fail)
 refine xW (hc) ?_
 rintro _ _ ⟨w, rfl, rfl⟩
 have hs := sortStable_a w l hl
 repeat' (first|refine Sp.h ?_|refine Lk.r rfl ?_|refine Rf.mk rfl ?_|fail)
 refine xW (hs) ?_
 rintro _ _ ⟨S, rfl, rfl, h1, h2⟩
 rw [ordE_uniq hu h1 h2]
 repeat' (first|refine Sp.h ?_|refine Lk.r rfl ?_|refine Rf.mk rfl ?_|refine xN ?_|fail)
 exact ⟨_, _, .one (.same (.z)), _, rfl, rfl⟩
theorem order_p (l : List EvS) (hu : Uniq l) (hl : l.length ≤ 10000) : CallP Tryz.prog 11 [evs l] (evs (ordE l)) :=
 CallA.fz (T := 40) (by rw [← (ordE_perm l).length_eq];omega) (order_o l hu hl)
end Go.Proofs.YtajenkpjcbaadaaGreat
namespace Go.Proofs.YtajenkpjcbaadaaGreat
open Go Go.CF
set_option maxRecDepth 20000
def updE (m : ModS) (e : EvS) (i : Nat) : Option UpS := if e.kind = 0 then updF (usF m e) i else none
noncomputable def mkE (t : TblS) (e : EvS) (u : UpS) : MkS := ⟨e.rep, e.num, e.time, if isReg t.kind then u.2.2 else 0⟩
def bK (k : Int) : Int := if k = 2 then 0 else if k = 3 then 1 else 2
def kK (k : Int) : Int := if k = 2 then 1 else if k = 3 then 0 else 2
def Asg (m : ModS) (t : TblS) (i : Nat) (P : List EvS) (x : MkS) : Prop := ∃ e ∈ P, ∃ u, updE m e i = some u ∧ u.1 = bK t.kind ∧ x = mkE t e u
def Liv (m : ModS) (t : TblS) (i : Nat) (P : List EvS) (x : MkS) : Prop := ∃ e ∈ P, ∃ u, updE m e i = some u ∧ u.1 = bK t.kind ∧ x = mkE t e u ∧ ∀ d ∈ P, ∀ w, updE m d i = some w → w.1 = kK t.kind → ¬ HasC d.past e.rep e.num
def PutP (m : ModS) (t : TblS) (i : Nat) (P : List EvS) : Prop := t.kind = 3 ∧ ∃ e ∈ P, ∃ u, updE m e i = some u ∧ u.1 = 0
def Kn4 (m : ModS) (t : TblS) (i : Nat) (P : List EvS) (l : List MkS) : Prop := (l = [] ∧ ∀ x, ¬ Asg m t i P x) ∨ ∃ x, l = [x] ∧ Asg m t i P x ∧ ∀ y, Asg m t i P y → ¬ LtK x y
structure Kn (m : ModS) (t : TblS) (i : Nat) (P : List EvS) (g : MgS) : Prop where
 put : g.put = true ↔ PutP m t i P
 drop : g.drop = false
 srt : g.marks.Pairwise LtK
 four : t.kind = 4 → Kn4 m t i P g.marks
 liv : t.kind ≠ 4 → ∀ x, x ∈ g.marks ↔ Liv m t i P x
def UniqP (P : List EvS) : Prop := ∀ a ∈ P, ∀ b ∈ P, a.rep = b.rep → a.num = b.num → a = b
theorem asg_nm {m : ModS} {t : TblS} {i : Nat} {P : List EvS} (hu : UniqP P) {x y : MkS} (hx : Asg m t i P x) (hy : Asg m t i P y) (hn : Nm x y) : x = y := by
 obtain ⟨e, he, u, h1, _, rfl⟩ := hx
 obtain ⟨d, hd, w, h3, _, rfl⟩ := hy
 have := hu e he d hd hn.1 hn.2
 subst this
 rw [h1] at h3;cases h3;rfl
theorem liv_asg {m : ModS} {t : TblS} {i : Nat} {P : List EvS} {x : MkS} (h : Liv m t i P x) : Asg m t i P x := by
 obtain ⟨e, he, u, h1, h2, h3, _⟩ := h
 exact ⟨e, he, u, h1, h2, h3⟩
theorem Kn.mem {m : ModS} {t : TblS} {i : Nat} {P : List EvS} {g : MgS} (h : Kn m t i P g) {x : MkS} (hx : x ∈ g.marks) : Asg m t i P x := by
 by_cases k4 : t.kind = 4
 ·rcases h.four k4 with ⟨h1, _⟩|⟨y, h1, h2, _⟩
  ·rw [h1] at hx;cases hx
  ·rw [h1, List.mem_singleton] at hx;subst hx;exact h2
 ·exact liv_asg ((h.liv k4 x).1 hx)
structure Nxt (P : List EvS) (e : EvS) : Prop where
 nm : ∀ p ∈ P, ¬ (p.rep = e.rep ∧ p.num = e.num)
 past : ∀ p ∈ P, ¬ HasC p.past e.rep e.num
 tm : ∀ p ∈ P, ¬ (p.time = e.time ∧ p.rep = e.rep)
 self : ¬ HasC e.past e.rep e.num
theorem asg_snoc {m : ModS} {t : TblS} {i : Nat} {P : List EvS} {e : EvS} {x : MkS} : Asg m t i (P ++ [e]) x ↔ Asg m t i P x ∨ ∃ u, updE m e i = some u ∧ u.1 = bK t.kind ∧ x = mkE t e u := by
 unfold Asg
 simp only [List.mem_append, List.mem_singleton]
 constructor
 ·rintro ⟨d, hd|rfl, h⟩
  ·exact .inl ⟨d, hd, h⟩
  ·exact .inr h
 ·rintro (⟨d, hd, h⟩|h)
  ·exact ⟨d, .inl hd, h⟩
  ·exact ⟨e, .inr rfl, h⟩
theorem putP_snoc {m : ModS} {t : TblS} {i : Nat} {P : List EvS} {e : EvS} : PutP m t i (P ++ [e]) ↔ PutP m t i P ∨ t.kind = 3 ∧ ∃ u, updE m e i = some u ∧ u.1 = 0 := by
 unfold PutP
 simp only [List.mem_append, List.mem_singleton]
 constructor
 ·rintro ⟨hk, d, hd|rfl, h⟩
  ·exact .inl ⟨hk, d, hd, h⟩
  ·exact .inr ⟨hk, h⟩
 ·rintro (⟨hk, d, hd, h⟩|⟨hk, h⟩)
  ·exact ⟨hk, d, .inl hd, h⟩
  ·exact ⟨hk, e, .inr rfl, h⟩
theorem liv_snoc {m : ModS} {t : TblS} {i : Nat} {P : List EvS} {e : EvS} (hn : Nxt P e) {x : MkS} :
  Liv m t i (P ++ [e]) x ↔ (Liv m t i P x ∧ ∀ u, updE m e i = some u → u.1 = kK t.kind → ¬ HasC e.past x.rep x.num) ∨ ∃ u, updE m e i = some u ∧ u.1 = bK t.kind ∧ x = mkE t e u := by
 constructor
 ·rintro ⟨d, hd, u, h1, h2, h3, h4⟩
  rcases List.mem_append.1 hd with hd|hd
  ·refine .inl ⟨⟨d, hd, u, h1, h2, h3, fun d' hd' => h4 d' (List.mem_append.2 (.inl hd'))⟩, fun w hw hk => ?_⟩
   rw [h3];exact h4 e (by simp) w hw hk
  ·rw [List.mem_singleton.1 hd] at h1 h3
   exact .inr ⟨u, h1, h2, h3⟩
 ·rintro (⟨⟨d, hd, u, h1, h2, h3, h4⟩, h5⟩|⟨u, h1, h2, h3⟩)
  ·refine ⟨d, List.mem_append.2 (.inl hd), u, h1, h2, h3, fun d' hd' w hw hk => ?_⟩
   rcases List.mem_append.1 hd' with hd' | hd'
   ·exact h4 d' hd' w hw hk
   ·rw [List.mem_singleton.1 hd'] at hw ⊢
    have := h5 w hw hk
    rw [h3] at this;exact this
  ·refine ⟨e, by simp, u, h1, h2, h3, fun d' hd' w hw hk => ?_⟩
   rcases List.mem_append.1 hd' with hd' | hd'
   ·exact hn.past d' hd'
   ·rw [List.mem_singleton.1 hd'];exact hn.self
theorem ins_lt {l : List MkS} {x : MkS} (hs : l.Pairwise LtK) (hn : ¬ HasNm l x) : (insK l x).Pairwise LtK ∧ ∀ y, y ∈ insK l x ↔ y ∈ l ∨ y = x := by
 have hsK : SrtK l := hs.imp fun h => LtK_asymm _ _ h
 have hm := hsK.mono x
 have hlt : ∀ y ∈ l, LtK x y ∨ LtK y x := fun y hy => by
  have h : ¬ Nm y x := fun h => hn ⟨y, hy, h⟩
  unfold Nm at h;unfold LtK;omega
 have h1 : ∀ y ∈ l.take (posK l x), LtK y x := fun y hy => by
  obtain ⟨j, hj⟩ := List.getElem?_of_mem hy
  have hjl : j < posK l x := by have := (List.getElem?_eq_some_iff.1 hj).1;simp at this;omega
  rw [List.getElem?_take, if_pos hjl] at hj
  by_cases h9 : LtK y x
  ·exact h9
  ·have : idxN (fun y => decide (¬ LtK y x)) l ≤ j := by
    rcases Nat.lt_or_ge j (idxN (fun y => decide (¬ LtK y x)) l) with hlt9|h
    ·exfalso
     have hle := idxN_le (fun y => decide (¬ LtK y x)) l
     by_cases hlen : idxN (fun y => decide (¬ LtK y x)) l < l.length
     ·obtain ⟨z, _, _, hz3⟩ := idxN_at hlen
      have := hz3 j y hlt9 hj
      simp at this;exact h9 this
     ·have hnone : ∀ z ∈ l, LtK z x := fun z hz => Classical.byContradiction fun h => hlen (idxN_lt.2 ⟨z, hz, by simpa using h⟩)
      exact h9 (hnone y (List.mem_of_getElem? hj))
    ·exact h
   unfold posK at hjl;omega
 have h2 : ∀ y ∈ l.drop (posK l x), LtK x y := fun y hy => by
  obtain ⟨j, hj⟩ := List.getElem?_of_mem hy
  rw [List.getElem?_drop] at hj
  have hym := List.mem_of_getElem? hj
  refine (hlt y hym).resolve_right fun h9 => ?_
  have hp : posK l x < l.length := by have := (List.getElem?_eq_some_iff.1 hj).1;omega
  obtain ⟨z, hz, hz2, _⟩ := idxN_at (p := fun y => decide (¬ LtK y x)) (l := l) hp
  have hz2 : ¬ LtK z x := by simpa using hz2
  exact hz2 (hm _ _ z y (Nat.le_add_right (posK l x) j) hz hj h9)
 have htd := List.take_append_drop (posK l x) l
 have hs' := hs
 rw [← htd] at hs'
 obtain ⟨s1, s2, s3⟩ := List.pairwise_append.1 hs'
 refine ⟨List.pairwise_append.2 ⟨s1, List.pairwise_cons.2 ⟨h2, s2⟩, fun a ha b hb => ?_⟩, fun y => ?_⟩
 ·rcases List.mem_cons.1 hb with rfl|hb
  ·exact h1 a ha
  ·exact s3 a ha b hb
 ·rw [insK, List.mem_append, List.mem_cons]
  constructor
  ·rintro (h|rfl|h)
   ·exact .inl (List.mem_of_mem_take h)
   ·exact .inr rfl
   ·exact .inl (List.mem_of_mem_drop h)
  ·rintro (h|rfl)
   ·rw [← htd, List.mem_append] at h
    exact h.elim .inl fun h => .inr (.inr h)
   ·exact .inr (.inl rfl)
end Go.Proofs.YtajenkpjcbaadaaGreat
namespace Go.Proofs.YtajenkpjcbaadaaGreat
open Go Go.CF
set_option maxRecDepth 20000
theorem cmp2_neg {a b : MkS} : cmp2 a b < 0 ↔ a.time < b.time ∨ a.time = b.time ∧ a.rep < b.rep := by
 unfold cmp2 orI cmpI
 by_cases h1 : a.time < b.time
 ·simp [h1]
 by_cases h2 : b.time < a.time
 ·simp [h1, h2];omega
 have h3 : a.time = b.time := by omega
 by_cases h4 : a.rep < b.rep
 ·simp [h3, h4]
 by_cases h5 : b.rep < a.rep
 ·simp [h3, h4, h5]
 have h6 : a.rep = b.rep := by omega
 simp [h3, h6]
def Kd (t : TblS) : Prop := t.kind = 2 ∨ t.kind = 3 ∨ t.kind = 4 ∨ t.kind = 5
theorem cell_step {m : ModS} {t : TblS} {i : Nat} {P : List EvS} {g : MgS} {e : EvS} (hk : Kd t) (h : Kn m t i P g) (hl : g.marks.length < 1024) (hn : Nxt P e) :
  ∃ g', cellF e t (updE m e i) g = (0, g') ∧ Kn m t i (P ++ [e]) g' ∧ g'.marks.length ≤ g.marks.length + 1 := by
 cases hu : updE m e i with
 | none =>
  refine ⟨g, rfl, ⟨?_, h.drop, h.srt, fun k4 => ?_, fun k4 x => ?_⟩, by omega⟩
  ·rw [putP_snoc, hu];simp [h.put]
  ·have he : ∀ x, Asg m t i (P ++ [e]) x ↔ Asg m t i P x := fun x => by rw [asg_snoc, hu];simp
   rcases h.four k4 with ⟨h1, h2⟩|⟨x, h1, h2, h3⟩
   ·exact .inl ⟨h1, fun x hx => h2 x ((he x).1 hx)⟩
   ·exact .inr ⟨x, h1, (he x).2 h2, fun y hy => h3 y ((he y).1 hy)⟩
  ·rw [liv_snoc hn, hu];simp [h.liv k4]
 | some u =>
  have hno : ¬ HasNm g.marks (mkE t e u) := fun ⟨x, hx, hxn⟩ => by
   obtain ⟨p, hp, w, _, _, rfl⟩ := h.mem hx
   exact hn.nm p hp hxn
  have hadd : addF g.marks (mkE t e u) = (0, insK g.marks (mkE t e u)) := by rw [addF, if_neg hno, if_neg (by omega)]
  have hil : ∀ (l : List MkS) x, (insK l x).length = l.length + 1 := fun l x => by
   have := posK_le l x
   simp [insK];omega
  obtain ⟨i1, i2⟩ := ins_lt h.srt hno
  have hfl : ∀ c, (fgK c g.marks).length ≤ g.marks.length := fun c => List.length_filter_le _ _
  have hfm : ∀ c x, x ∈ fgK c g.marks ↔ x ∈ g.marks ∧ ¬ HasC c x.rep x.num := fun c x => by simp [fgK, List.mem_filter]
  have hput : t.kind ≠ 3 → g.put = false := fun h3 => by
   have := h.put
   cases hp : g.put
   ·rfl
   ·exact absurd (this.1 hp).1 h3
  have hmk : mkE t e u = ⟨e.rep, e.num, e.time, if isReg t.kind then u.2.2 else 0⟩ := rfl
  have hlv : ∀ x, Liv m t i (P ++ [e]) x ↔ (Liv m t i P x ∧ (u.1 = kK t.kind → ¬ HasC e.past x.rep x.num)) ∨ (u.1 = bK t.kind ∧ x = mkE t e u) := fun x => by
   rw [liv_snoc hn, hu];simp
  have hpt : PutP m t i (P ++ [e]) ↔ PutP m t i P ∨ t.kind = 3 ∧ u.1 = 0 := by rw [putP_snoc, hu];simp
  have hsame : cellF e t (some u) g = (0, g) → (t.kind ≠ 4 → u.1 ≠ bK t.kind ∧ u.1 ≠ kK t.kind) → (t.kind = 4 → u.1 ≠ 2) → (t.kind = 3 → u.1 ≠ 0) → ∃ g', cellF e t (some u) g = (0, g') ∧ Kn m t i (P ++ [e]) g' ∧ g'.marks.length ≤ g.marks.length + 1 := fun h1 h2 h3 h4 => by
   refine ⟨g, h1, ⟨?_, h.drop, h.srt, fun k4 => ?_, fun k4 x => ?_⟩, by omega⟩
   ·rw [hpt, h.put];exact ⟨.inl, fun h => h.elim id fun h => absurd h.2 (h4 h.1)⟩
   ·have hb : bK t.kind = 2 := by rw [k4];rfl
    have he : ∀ x, Asg m t i (P ++ [e]) x ↔ Asg m t i P x := fun x => by
     rw [asg_snoc, hu]
     refine ⟨fun h => h.elim id fun ⟨w, hw, hw2, _⟩ => ?_, .inl⟩
     cases hw
     exact absurd (hw2.trans hb) (h3 k4)
    rcases h.four k4 with ⟨h1, h2⟩|⟨x, h1, h2, h3⟩
    ·exact .inl ⟨h1, fun x hx => h2 x ((he x).1 hx)⟩
    ·exact .inr ⟨x, h1, (he x).2 h2, fun y hy => h3 y ((he y).1 hy)⟩
   ·rw [hlv, h.liv k4]
    exact ⟨fun h9 => .inl ⟨h9, fun h => absurd h (h2 k4).2⟩, fun h9 => h9.elim (·.1) fun h => absurd h.1 (h2 k4).1⟩
  rcases hk with k|k|k|k
  ·have nb : bK t.kind = 0 := by rw [k];rfl
   have nk : kK t.kind = 1 := by rw [k];rfl
   by_cases u0 : u.1 = 0
   ·refine ⟨⟨g.put, g.drop, insK g.marks (mkE t e u)⟩, ?_, ⟨?_, h.drop, i1, fun k4 => by omega, fun _ x => ?_⟩, by simp [hil]⟩
    ·simp only [cellF, k, u0, true_and, true_or, if_true]
     rw [← k, ← hmk, hadd]
    ·rw [hpt, h.put];exact ⟨.inl, fun h => h.elim id fun h => by omega⟩
    ·rw [hlv]
     show x ∈ insK g.marks (mkE t e u) ↔ _
     rw [i2, h.liv (by omega)]
     exact ⟨fun h9 => h9.elim (fun h9 => .inl ⟨h9, fun h => by omega⟩) fun h9 => .inr ⟨by omega, h9⟩, fun h9 => h9.elim (fun h9 => .inl h9.1) fun h9 => .inr h9.2⟩
   by_cases u1 : u.1 = 1
   ·refine ⟨⟨false, g.drop, fgK e.past g.marks⟩, ?_, ⟨?_, h.drop, h.srt.filter _, fun k4 => by omega, fun _ x => ?_⟩, by simp only;have := hfl e.past;omega⟩
    ·simp [cellF, k, u1]
    ·rw [hpt, ← h.put, hput (by omega)]
     simp only [Bool.false_eq_true, false_or, false_iff]
     omega
    ·rw [hlv]
     show x ∈ fgK e.past g.marks ↔ _
     rw [hfm, h.liv (by omega)]
     exact ⟨fun h9 => .inl ⟨h9.1, fun _ => h9.2⟩, fun h9 => h9.elim (fun h9 => ⟨h9.1, h9.2 (by omega)⟩) fun h9 => by omega⟩
   ·exact hsame (by simp [cellF, k, u0, u1]) (fun _ => ⟨by omega, by omega⟩) (fun h => by omega) (fun h => by omega)
  ·have nb : bK t.kind = 1 := by rw [k];rfl
   have nk : kK t.kind = 0 := by rw [k];rfl
   by_cases u1 : u.1 = 1
   ·refine ⟨⟨g.put, g.drop, insK g.marks (mkE t e u)⟩, ?_, ⟨?_, h.drop, i1, fun k4 => by omega, fun _ x => ?_⟩, by simp [hil]⟩
    ·simp only [cellF, k, u1, true_and, or_true, if_true]
     rw [← k, ← hmk, hadd]
    ·rw [hpt, h.put];exact ⟨.inl, fun h => h.elim id fun h => by omega⟩
    ·rw [hlv]
     show x ∈ insK g.marks (mkE t e u) ↔ _
     rw [i2, h.liv (by omega)]
     exact ⟨fun h9 => h9.elim (fun h9 => .inl ⟨h9, fun h => by omega⟩) fun h9 => .inr ⟨by omega, h9⟩, fun h9 => h9.elim (fun h9 => .inl h9.1) fun h9 => .inr h9.2⟩
   by_cases u0 : u.1 = 0
   ·refine ⟨⟨true, false, fgK e.past g.marks⟩, ?_, ⟨?_, rfl, h.srt.filter _, fun k4 => by omega, fun _ x => ?_⟩, by simp only;have := hfl e.past;omega⟩
    ·simp [cellF, k, u0]
    ·rw [hpt];simp [k, u0]
    ·rw [hlv]
     show x ∈ fgK e.past g.marks ↔ _
     rw [hfm, h.liv (by omega)]
     exact ⟨fun h9 => .inl ⟨h9.1, fun _ => h9.2⟩, fun h9 => h9.elim (fun h9 => ⟨h9.1, h9.2 (by omega)⟩) fun h9 => by omega⟩
   ·exact hsame (by simp [cellF, k, u0, u1]) (fun _ => ⟨by omega, by omega⟩) (fun h => by omega) (fun _ => u0)
  ·have nb : bK t.kind = 2 := by rw [k];rfl
   by_cases u2 : u.1 = 2
   ·have hc : ∀ q, lastF g.marks (mkE t e u) = (0, q) → cellF e t (some u) g = (0, ⟨g.put, g.drop, q⟩) := fun q hq => by
     simp only [cellF, k, u2]
     rw [← k, ← hmk, hq];simp [k]
    have hx : ∀ x, Asg m t i (P ++ [e]) x ↔ Asg m t i P x ∨ x = mkE t e u := fun x => by rw [asg_snoc, hu];simp [nb, u2]
    have hpp : g.put = true ↔ PutP m t i (P ++ [e]) := by rw [hpt, h.put];exact ⟨.inl, fun h => h.elim id fun h => by omega⟩
    rcases h.four k with ⟨h1, h2⟩|⟨x, h1, h2, h3⟩
    ·refine ⟨⟨g.put, g.drop, [mkE t e u]⟩, hc _ ?_, ⟨hpp, h.drop, by simp, fun _ => .inr ⟨_, rfl, (hx _).2 (.inr rfl), fun y hy => ?_⟩, fun h => absurd k h⟩, by simp⟩
     ·rw [h1] at hadd ⊢
      rw [lastF, hadd]
      simp [insK, posK, idxN]
     ·rcases (hx y).1 hy with hy|rfl
      ·exact absurd hy (h2 y)
      ·exact fun h => LtK_asymm _ _ h h
    ·by_cases hc2 : cmp2 x (mkE t e u) < 0
     ·have hlt : LtK x (mkE t e u) := by have := cmp2_neg.1 hc2;unfold LtK;omega
      refine ⟨⟨g.put, g.drop, [mkE t e u]⟩, hc _ (by rw [h1, lastF, if_pos hc2]), ⟨hpp, h.drop, by simp, fun _ => .inr ⟨_, rfl, (hx _).2 (.inr rfl), fun y hy h9 => ?_⟩, fun h => absurd k h⟩, by simp⟩
      rcases (hx y).1 hy with hy|rfl
      ·exact h3 y hy (hlt.trans h9)
      ·exact LtK_asymm _ _ h9 h9
     ·refine ⟨⟨g.put, g.drop, [x]⟩, hc _ (by rw [h1, lastF, if_neg hc2]), ⟨hpp, h.drop, by simp, fun _ => .inr ⟨x, rfl, (hx _).2 (.inl h2), fun y hy h9 => ?_⟩, fun h => absurd k h⟩, by simp⟩
      rcases (hx y).1 hy with hy|rfl
      ·exact h3 y hy h9
      ·obtain ⟨p, hp, w, _, _, rfl⟩ := h2
       have a1 := hn.tm p hp
       rw [cmp2_neg] at hc2
       unfold LtK at h9
       simp only [mkE] at hc2 h9
       omega
   ·exact hsame (by simp [cellF, k, u2]) (fun h => absurd k h) (fun _ => u2) (fun h => by omega)
  ·have nb : bK t.kind = 2 := by rw [k];rfl
   have nk : kK t.kind = 2 := by rw [k];rfl
   by_cases u2 : u.1 = 2
   ·have hno2 : ¬ HasNm (fgK e.past g.marks) (mkE t e u) := fun ⟨x, hx, hxn⟩ => hno ⟨x, ((hfm _ _).1 hx).1, hxn⟩
    have hfl2 := hfl e.past
    have hadd2 : addF (fgK e.past g.marks) (mkE t e u) = (0, insK (fgK e.past g.marks) (mkE t e u)) := by rw [addF, if_neg hno2, if_neg (by omega)]
    obtain ⟨j1, j2⟩ := ins_lt (l := fgK e.past g.marks) (h.srt.filter _) hno2
    refine ⟨⟨g.put, g.drop, insK (fgK e.past g.marks) (mkE t e u)⟩, ?_, ⟨?_, h.drop, j1, fun k4 => by omega, fun _ x => ?_⟩, by simp only [hil];omega⟩
    ·simp only [cellF, k, u2]
     rw [← k, ← hmk, hadd2];simp [k]
    ·rw [hpt, h.put];exact ⟨.inl, fun h => h.elim id fun h => by omega⟩
    ·rw [hlv]
     show x ∈ insK (fgK e.past g.marks) (mkE t e u) ↔ _
     rw [show x ∈ insK (fgK e.past g.marks) (mkE t e u) ↔ x ∈ fgK e.past g.marks ∨ x = mkE t e u from j2 x, hfm, h.liv (by omega)]
     exact ⟨fun h9 => h9.elim (fun h9 => .inl ⟨h9.1, fun _ => h9.2⟩) fun h9 => .inr ⟨by omega, h9⟩, fun h9 => h9.elim (fun h9 => .inl ⟨h9.1, h9.2 (by omega)⟩) fun h9 => .inr h9.2⟩
   ·exact hsame (by simp [cellF, k, u2]) (fun _ => ⟨by omega, by omega⟩) (fun h => by omega) (fun h => by omega)
end Go.Proofs.YtajenkpjcbaadaaGreat
namespace Go.Proofs.YtajenkpjcbaadaaGreat
open Go Go.CF
set_option maxRecDepth 20000
def isSt (k : Int) : Prop := k = 2 ∨ k = 3
def FitU (m : ModS) : Prop := ∀ a ∈ m.acts, ∀ u ∈ a.eff.updates, ∀ (i : Nat) t, u.2.1 = i → (mrgF m)[i]? = some t → (isSt t.kind ↔ u.1 = 0 ∨ u.1 = 1) ∧ (¬ isSt t.kind → t.lo ≤ u.2.2 ∧ u.2.2 ≤ t.hi)
structure KnL (m : ModS) (P : List EvS) (l : List MgS) : Prop where
 len : l.length = (mrgF m).length
 kn : ∀ (i : Nat) t g, (mrgF m)[i]? = some t → l[i]? = some g → Kn m t i P g ∧ g.marks.length ≤ P.length
theorem kd_of {m : ModS} (hm : LayOK m.sorts m.tables) {i : Nat} {t : TblS} (ht : (mrgF m)[i]? = some t) : Kd t := by
 have := kindM hm t (List.mem_of_getElem? ht)
 unfold Kd;omega
theorem updE_mem {m : ModS} {e : EvS} {i : Nat} {u : UpS} (h : updE m e i = some u) : ∃ a ∈ m.acts, u ∈ a.eff.updates ∧ u.2.1 = i := by
 unfold updE at h
 split at h
 ·have h1 := List.mem_of_find?_eq_some h
  have h2 := List.find?_some h
  have h2 : u.2.1 = (i : Int) := by simpa using h2
  rw [List.mem_reverse] at h1
  unfold usF at h1
  cases ha : m.acts[e.action.toNat]? with
  | none => rw [ha] at h1;cases h1
  | some a => rw [ha] at h1;exact ⟨a, List.mem_of_getElem? ha, h1, h2⟩
 ·cases h
theorem Kn.valG {m : ModS} {t : TblS} {i : Nat} {P : List EvS} {g : MgS} (hf : FitU m) (ht : (mrgF m)[i]? = some t) (hk : Kd t) (hu : UniqP P) (hP : ∀ e ∈ P, FormedE e) (h : Kn m t i P g) (hl : g.marks.length ≤ 1024) : ValG t g := by
 refine ⟨⟨fun h9 => ?_, fun h9 => ?_, fun h9 => ?_, hl⟩, fun j x hj hx => ⟨?_, fun q y hq hy hn => ?_, fun y hq hy h9 => ?_⟩⟩
 ·rw [h.drop] at h9;cases h9
 ·have := (h.put.1 h9.1).1
  have := h9.2
  unfold isReg at this;omega
 ·rcases h.four h9.1 with ⟨h1, _⟩|⟨x, h1, _⟩
  ·rw [h1] at h9;simp at h9
  ·rw [h1] at h9;simp at h9
 ·obtain ⟨e, he, u, h1, h2, rfl⟩ := h.mem (List.mem_of_getElem? hx)
  obtain ⟨f1, f2, ⟨y, f3, f4⟩, f5, f6, f7⟩ := hP e he
  have hlen := (List.getElem?_eq_some_iff.1 f3).1
  have := f1.1 y (List.mem_of_getElem? f3)
  have := f1.2
  unfold rngK at *
  unfold Btw at f6
  obtain ⟨a, ha, hua, hui⟩ := updE_mem h1
  have hfit := hf a ha u hua i t hui ht
  refine ⟨by simp only [mkE];omega, by simp only [mkE];omega, by simp only [mkE];omega, ?_⟩
  simp only [mkE, lowT, highT]
  by_cases hr : isReg t.kind
  ·rw [if_pos hr, if_pos hr, if_pos hr]
   exact hfit.2 (by unfold isReg at hr;unfold isSt;omega)
  ·rw [if_neg hr, if_neg hr, if_neg hr];omega
 ·have h1 := h.mem (List.mem_of_getElem? hx)
  have h2 := h.mem (List.mem_of_getElem? hy)
  have := asg_nm hu h2 h1 hn
  subst this
  obtain ⟨j1, rfl⟩ := List.getElem?_eq_some_iff.1 hx
  obtain ⟨q1, hq2⟩ := List.getElem?_eq_some_iff.1 hy
  have := List.pairwise_iff_getElem.1 h.srt q j q1 j1 hq
  rw [hq2] at this
  exact LtK_asymm _ _ this this
 ·obtain ⟨j1, rfl⟩ := List.getElem?_eq_some_iff.1 hx
  obtain ⟨q1, rfl⟩ := List.getElem?_eq_some_iff.1 hy
  exact LtK_asymm _ _ h9 (List.pairwise_iff_getElem.1 h.srt (j - 1) j q1 j1 (by omega))
theorem KnL.valL {m : ModS} {P : List EvS} {l : List MgS} (hm : LayOK m.sorts m.tables) (hf : FitU m) (hu : UniqP P) (hP : ∀ e ∈ P, FormedE e) (hl : P.length ≤ 1024) (h : KnL m P l) : ValL (mrgF m) l :=
 ⟨h.len.symm, fun i t g ht hg => (h.kn i t g ht hg).1.valG hf ht (kd_of hm ht) hu hP (by have := (h.kn i t g ht hg).2;omega)⟩
theorem KnL.nil (m : ModS) : KnL m [] (List.replicate (mrgF m).length mg0) := by
 refine ⟨by simp, fun i t g _ hg => ?_⟩
 have : g = mg0 := (List.mem_replicate.1 (List.mem_of_getElem? hg)).2
 subst this
 exact ⟨⟨by simp [mg0, PutP], rfl, .nil, fun _ => .inl ⟨rfl, fun x ⟨e, he, _⟩ => by cases he⟩, fun _ x => by simp [mg0, Liv]⟩, by simp [mg0]⟩
theorem apply_step {m : ModS} {P : List EvS} {l : List MgS} {e : EvS} (hm : LayOK m.sorts m.tables) (hv : ValL (mrgF m) l) (hl : P.length < 1024) (h : KnL m P l) (he : EvV m (e.past.length : Nat) e) (hn : Nxt P e) :
  ∃ l', applyF m l e = (0, l') ∧ KnL m (P ++ [e]) l' ∧ ∀ (i : Nat) t g, (mrgF m)[i]? = some t → l[i]? = some g → l'[i]? = some (cellF e t (updE m e i) g).2 := by
 have hstep : ∀ (i : Nat) t g, (mrgF m)[i]? = some t → l[i]? = some g → ∃ g', cellF e t (updE m e i) g = (0, g') ∧ Kn m t i (P ++ [e]) g' ∧ g'.marks.length ≤ g.marks.length + 1 := fun i t g ht hg =>
  cell_step (kd_of hm ht) (h.kn i t g ht hg).1 (by have := (h.kn i t g ht hg).2;omega) hn
 by_cases hk : e.kind = 0
 ·have hup : ∀ i : Nat, updE m e i = updF (usF m e) i := fun i => if_pos hk
  have hat : ∀ (i : Nat) t g, (mrgF m)[i]? = some t → l[i]? = some g → (cellsF (mrgF m) l (usF m e) e)[i]? = some (cellF e t (updE m e i) g) := fun i t g ht hg => by rw [hup];exact cellsF_at ht hg
  have hall : ∀ p ∈ cellsF (mrgF m) l (usF m e) e, p.1 = 0 := fun p hp => by
   obtain ⟨i, hi⟩ := List.getElem?_of_mem hp
   have hil := (List.getElem?_eq_some_iff.1 hi).1
   rw [cellsF_len] at hil
   obtain ⟨g, hg⟩ := get_of hil
   obtain ⟨t, ht⟩ := get_of (l := mrgF m) (i := i) (by rw [← h.len];exact hil)
   obtain ⟨g', h1, _⟩ := hstep i t g ht hg
   rw [hat i t g ht hg, h1] at hi
   cases hi;rfl
  refine ⟨(cellsF (mrgF m) l (usF m e) e).map (·.2), ?_, ⟨by rw [List.length_map, cellsF_len, h.len], fun i t g' ht hg' => ?_⟩, fun i t g ht hg => by rw [List.getElem?_map, hat i t g ht hg];rfl⟩
  ·rw [applyF, if_neg (fun h9 => h9 ⟨hv, he⟩), if_neg (fun h9 => h9 hk), gather_end (fun p hp => .inl (hall p hp)), if_neg]
   rintro ⟨p, hp, h8⟩
   rw [hall p hp] at h8;cases h8
  ·obtain ⟨g, hg⟩ := get_of (l := l) (i := i) (by rw [h.len];exact (List.getElem?_eq_some_iff.1 ht).1)
   obtain ⟨g2, h1, h2, h3⟩ := hstep i t g ht hg
   rw [List.getElem?_map, hat i t g ht hg, h1] at hg'
   cases hg'
   have := (h.kn i t g ht hg).2
   exact ⟨h2, by simp;omega⟩
 ·have hup : ∀ i : Nat, updE m e i = none := fun i => if_neg hk
  refine ⟨l, by rw [applyF, if_neg (fun h9 => h9 ⟨hv, he⟩), if_pos hk], ⟨h.len, fun i t g ht hg => ?_⟩, fun i t g ht hg => by rw [hup];exact hg⟩
  obtain ⟨g2, h1, h2, h3⟩ := hstep i t g ht hg
  rw [hup] at h1
  have e1 : g = g2 := congrArg Prod.snd h1
  subst e1
  have := (h.kn i t g ht hg).2
  exact ⟨h2, by simp;omega⟩
/-! ### Closed lists -/
theorem uniqP_of {l : List EvS} (h : Uniq l) : UniqP l := fun a ha b hb h1 h2 => h.eq ha hb (by rw [nm, nm, h1, h2])
theorem has_self {e : EvS} (h : FormedE e) : ¬ HasC e.past e.rep e.num := by
 obtain ⟨_, _, ⟨x, h1, h2⟩, _⟩ := h
 rintro ⟨_, _, _, y, h3, h4⟩
 rw [h1] at h3;cases h3;omega
theorem closed_past {l : List EvS} (h : ClosedE l) {e d : EvS} (hd : d ∈ l) (he : e ∈ l) (hh : HasC d.past e.rep e.num) : e.time < d.time ∧ Cont e.past d.past := by
 obtain ⟨h1, h2, h3, x, h4, h5⟩ := hh
 obtain ⟨y, hy, g1, g2, g3, g4⟩ := h.2.2.2 d hd e.rep.toNat x h4 e.num h3 h5
 have : y = e := uniqP_of h.2.1 y hy e he (by omega) g2
 subst this
 exact ⟨g4, g3⟩
theorem has_of_lt {l : List EvS} (h : ClosedE l) {e d : EvS} (hd : d ∈ l) (he : e ∈ l) (hr : e.rep = d.rep) (hn : e.num < d.num) : HasC d.past e.rep e.num := by
 obtain ⟨f1, f2, ⟨x, f3, f4⟩, _⟩ := (h.2.2.1 d hd).1
 obtain ⟨g1, g2, ⟨y, g3, g4⟩, _⟩ := (h.2.2.1 e he).1
 have := g1.1 y (List.mem_of_getElem? g3)
 unfold rngK at this
 exact ⟨f1, by omega, by omega, x, by rw [hr];exact f3, by omega⟩
end Go.Proofs.YtajenkpjcbaadaaGreat
namespace Go.Proofs.YtajenkpjcbaadaaGreat
open Go Go.CF
set_option maxRecDepth 20000
theorem zipC_at {op : Int → Int → Int} {a b : List Int} (h : a.length = b.length) {i : Nat} {z : Int} : (zipC op a b)[i]? = some z ↔ ∃ x y, a[i]? = some x ∧ b[i]? = some y ∧ z = op x y := by
 unfold zipC
 rw [List.getElem?_zipWith]
 constructor
 ·intro h9
  cases ha : a[i]? with
  | none => rw [ha] at h9;simp at h9
  | some x =>
   cases hb : b[i]? with
   | none => rw [ha, hb] at h9;simp at h9
   | some y => rw [ha, hb] at h9;simp at h9;exact ⟨x, y, rfl, rfl, h9.symm⟩
 ·rintro ⟨x, y, ha, hb, rfl⟩
  rw [ha, hb]
theorem zipC_val {op : Int → Int → Int} {a b : List Int} (ha : ValC a) (hb : ValC b) (h : a.length = b.length) (hop : ∀ x y, rngK x → rngK y → rngK (op x y)) : ValC (zipC op a b) := by
 refine ⟨fun z hz => ?_, ?_⟩
 ·obtain ⟨i, hi⟩ := List.getElem?_of_mem hz
  obtain ⟨x, y, h1, h2, rfl⟩ := (zipC_at h).1 hi
  exact hop x y (ha.1 x (List.mem_of_getElem? h1)) (hb.1 y (List.mem_of_getElem? h2))
 ·rw [zipC_len h];exact ha.2
theorem rng_max (x y : Int) (hx : rngK x) (hy : rngK y) : rngK (max x y) := by unfold rngK at *;omega
theorem rng_min (x y : Int) (hx : rngK x) (hy : rngK y) : rngK (min x y) := by unfold rngK at *;omega
theorem joinC_val {a b : List Int} (ha : ValC a) (hb : ValC b) (h : a.length = b.length) : ValC (joinC a b) := zipC_val ha hb h rng_max
theorem joinC_len {a b : List Int} (h : a.length = b.length) : (joinC a b).length = a.length := zipC_len h
theorem has_join {a b : List Int} (ha : ValC a) (hb : ValC b) (h : a.length = b.length) (r n : Int) : HasC (joinC a b) r n ↔ HasC a r n ∨ HasC b r n := by
 constructor
 ·rintro ⟨_, h2, h3, z, h4, h5⟩
  obtain ⟨x, y, hx, hy, rfl⟩ := (zipC_at h).1 h4
  by_cases hn : n ≤ x
  ·exact .inl ⟨ha, h2, h3, x, hx, hn⟩
  ·exact .inr ⟨hb, h2, h3, y, hy, by omega⟩
 ·rintro (⟨_, h2, h3, x, hx, h5⟩|⟨_, h2, h3, y, hy, h5⟩)
  ·obtain ⟨y, hy⟩ := get_of (l := b) (i := r.toNat) (by rw [← h];exact (List.getElem?_eq_some_iff.1 hx).1)
   exact ⟨joinC_val ha hb h, h2, h3, _, (zipC_at h).2 ⟨x, y, hx, hy, rfl⟩, by omega⟩
  ·obtain ⟨x, hx⟩ := get_of (l := a) (i := r.toNat) (by rw [h];exact (List.getElem?_eq_some_iff.1 hy).1)
   exact ⟨joinC_val ha hb h, h2, h3, _, (zipC_at h).2 ⟨x, y, hx, hy, rfl⟩, by omega⟩
theorem clkE_val {n : Nat} (hn : 1 ≤ n ∧ n ≤ 5) {l : List EvS} (hl : ∀ e ∈ l, rngK e.num) : ValC (clkE n l) := by
 have key : ∀ (l : List EvS) (c : List Int), (∀ e ∈ l, rngK e.num) → (∀ x ∈ c, rngK x) → ∀ x ∈ l.foldl (fun c e => c.set e.rep.toNat (max (c[e.rep.toNat]?.getD 0) e.num)) c, rngK x := by
  intro l
  induction l with
  | nil => exact fun c _ h => h
  | cons e l ih =>
   intro c h1 h2
   rw [List.foldl_cons]
   refine ih _ (fun d hd => h1 d (List.mem_cons_of_mem _ hd)) fun x hx => ?_
   rcases List.mem_or_eq_of_mem_set hx with h|rfl
   ·exact h2 x h
   ·have h3 := h1 e (by simp)
    have h4 : rngK (c[e.rep.toNat]?.getD 0) := by
     cases hc : c[e.rep.toNat]? with
     | none => simp [rngK]
     | some y => exact h2 y (List.mem_of_getElem? hc)
    exact rng_max _ _ h4 h3
 refine ⟨key l _ hl fun x hx => ?_, by rw [clkE_len];omega⟩
 rw [(List.mem_replicate.1 hx).2];simp [rngK]
theorem formed_num {e : EvS} (h : FormedE e) : rngK e.num := by
 obtain ⟨f1, _, ⟨x, f3, f4⟩, f5, _⟩ := h
 have := f1.1 x (List.mem_of_getElem? f3)
 unfold rngK at *;omega
noncomputable def part1 (l : List EvS) (c : List Int) : List Int := zipC min c (clkE c.length l)
noncomputable def partC (l : List EvS) (c : List Int) : List Int := (cutL l (part1 l c)).foldl (fun k x => joinC k x.past) (part1 l c)
theorem mem_cut {l : List EvS} {c : List Int} {e : EvS} : e ∈ cutL l c ↔ e ∈ l ∧ HasC c e.rep e.num := by simp [cutL, List.mem_filter]
theorem fold_has {n : Nat} : ∀ (xs : List EvS) (c : List Int), (∀ x ∈ xs, ValC x.past ∧ x.past.length = n) → ValC c → c.length = n →
  ValC (xs.foldl (fun k x => joinC k x.past) c) ∧ (xs.foldl (fun k x => joinC k x.past) c).length = n ∧ ∀ r m, HasC (xs.foldl (fun k x => joinC k x.past) c) r m ↔ HasC c r m ∨ ∃ x ∈ xs, HasC x.past r m := by
 intro xs
 induction xs with
 | nil => intro c _ h2 h3;exact ⟨h2, h3, fun r m => by simp⟩
 | cons x xs ih =>
  intro c h1 h2 h3
  obtain ⟨v1, v2⟩ := h1 x (by simp)
  rw [List.foldl_cons]
  obtain ⟨a1, a2, a3⟩ := ih (joinC c x.past) (fun y hy => h1 y (List.mem_cons_of_mem _ hy)) (joinC_val h2 v1 (by omega)) (by rw [joinC_len (by omega)];omega)
  refine ⟨a1, a2, fun r m => ?_⟩
  rw [a3, has_join h2 v1 (by omega)]
  constructor
  ·rintro ((h|h)|⟨y, hy, h⟩)
   ·exact .inl h
   ·exact .inr ⟨x, by simp, h⟩
   ·exact .inr ⟨y, List.mem_cons_of_mem _ hy, h⟩
  ·rintro (h|⟨y, hy, h⟩)
   ·exact .inl (.inl h)
   ·rcases List.mem_cons.1 hy with rfl|hy
    ·exact .inl (.inr h)
    ·exact .inr ⟨y, hy, h⟩
theorem has_ins {a b : List Int} (hb : ValC b) (h : Ins a b) (hl : a.length ≤ b.length) {r n : Int} (hh : HasC a r n) : HasC b r n := by
 obtain ⟨_, h2, h3, x, hx, h5⟩ := hh
 obtain ⟨y, hy⟩ := get_of (l := b) (i := r.toNat) (by have := (List.getElem?_eq_some_iff.1 hx).1;omega)
 exact ⟨hb, h2, h3, y, hy, by have := h _ x y hx hy;omega⟩
structure Part (l : List EvS) (k : List Int) : Prop where
 val : ValC k
 len : k.length = n0 l
 cls : ∀ e ∈ cutL l k, ∀ d ∈ l, HasC e.past d.rep d.num → d ∈ cutL l k
 sub : ∀ e ∈ cutL l k, Ins e.past k
theorem cont_ins {a b : List Int} (h : Cont a b) : Ins a b ∧ a.length = b.length ∧ ValC b := ⟨h.2, ((alike2 a b).1 h.1).2.2, ((alike2 a b).1 h.1).2.1⟩
theorem part1_ok {l : List EvS} {c : List Int} (hc : ClosedE l) (hv : ValC c) (hl : c.length = n0 l) : ValC (part1 l c) ∧ (part1 l c).length = n0 l := by
 have h1 : ValC (clkE c.length l) := clkE_val hv.2 fun e he => formed_num (hc.2.2.1 e he).1
 exact ⟨zipC_val hv h1 (by rw [clkE_len]) rng_min, by rw [part1, zipC_len (by rw [clkE_len]), hl]⟩
theorem fold_ins {n : Nat} : ∀ (xs : List EvS) (c : List Int), (∀ x ∈ xs, x.past.length = n) → c.length = n → Ins c (xs.foldl (fun k x => joinC k x.past) c) ∧ ∀ x ∈ xs, Ins x.past (xs.foldl (fun k x => joinC k x.past) c) := by
 intro xs
 induction xs with
 | nil => intro c _ _;exact ⟨fun i x y h1 h2 => by rw [List.foldl_nil, h1] at h2;cases h2;omega, fun x hx => by cases hx⟩
 | cons x xs ih =>
  intro c h1 h2
  rw [List.foldl_cons]
  have hx := h1 x (by simp)
  have hjl : (joinC c x.past).length = n := by rw [joinC_len (by omega)];exact h2
  obtain ⟨a1, a2⟩ := ih (joinC c x.past) (fun y hy => h1 y (List.mem_cons_of_mem _ hy)) hjl
  have step : ∀ a : List Int, a.length = n → Ins a (joinC c x.past) → Ins a (xs.foldl (fun k x => joinC k x.past) (joinC c x.past)) := fun a hal ha i u w hu hw => by
   obtain ⟨z, hz⟩ := get_of (l := joinC c x.past) (i := i) (by rw [hjl, ← hal];exact (List.getElem?_eq_some_iff.1 hu).1)
   have := ha i u z hu hz
   have := a1 i z w hz hw
   omega
  refine ⟨step c h2 fun i u w hu hw => ?_, fun y hy => ?_⟩
  ·obtain ⟨p, q, hp, _, rfl⟩ := (zipC_at (by omega)).1 hw
   rw [hp] at hu;cases hu;omega
  ·rcases List.mem_cons.1 hy with rfl|hy
   ·refine step _ hx fun i u w hu hw => ?_
    obtain ⟨p, q, _, hq, rfl⟩ := (zipC_at (by omega)).1 hw
    rw [hq] at hu;cases hu;omega
   ·exact a2 y hy
theorem part_ok {l : List EvS} {c : List Int} (hc : ClosedE l) (hv : ValC c) (hl : c.length = n0 l) : Part l (partC l c) := by
 obtain ⟨p1, p2⟩ := part1_ok hc hv hl
 have hxs : ∀ x ∈ cutL l (part1 l c), ValC x.past ∧ x.past.length = n0 l := fun x hx => by
  have := hc.2.2.1 x (mem_cut.1 hx).1
  exact ⟨this.1.1, this.2⟩
 obtain ⟨a1, a2, a3⟩ := fold_has (cutL l (part1 l c)) (part1 l c) hxs p1 p2
 obtain ⟨b1, b2⟩ := fold_ins (n := n0 l) (cutL l (part1 l c)) (part1 l c) (fun x hx => (hxs x hx).2) p2
 have hsub : ∀ e ∈ cutL l (partC l c), Ins e.past (partC l c) := fun e he => by
  obtain ⟨h1, h2⟩ := mem_cut.1 he
  rcases (a3 _ _).1 h2 with h|⟨x, hx, h⟩
  ·exact b2 e (mem_cut.2 ⟨h1, h⟩)
  ·obtain ⟨g1, g2, _⟩ := cont_ins (closed_past hc (mem_cut.1 hx).1 h1 h).2
   intro i u w hu hw
   obtain ⟨z, hz⟩ := get_of (l := x.past) (i := i) (by rw [← g2];exact (List.getElem?_eq_some_iff.1 hu).1)
   have := g1 i u z hu hz
   have := b2 x hx i z w hz hw
   omega
 refine ⟨a1, a2, fun e he d hd hh => ?_, hsub⟩
 refine mem_cut.2 ⟨hd, has_ins a1 (hsub e he) ?_ hh⟩
 have h9 : e.past.length = n0 l := (hc.2.2.1 e (mem_cut.1 he).1).2
 have h10 : (partC l c).length = n0 l := a2
 omega
end Go.Proofs.YtajenkpjcbaadaaGreat
namespace Go.Proofs.YtajenkpjcbaadaaGreat
open Go Go.CF
set_option maxRecDepth 20000
theorem join_z2 {a b : List Int} (ha : ValC a) (hb : ValC b) (hl : a.length = b.length) : CallP Tryz.prog 12 [clks [a, b]] (ints (joinC a b)) := join_z ((alike2 a b).2 ⟨ha, hb, hl⟩)
theorem meet_z2 {a b : List Int} (ha : ValC a) (hb : ValC b) (hl : a.length = b.length) : CallP Tryz.prog 25 [clks [a, b]] (ints (zipC min a b)) :=
 CallA.fz (by have := ha.2;simp [zipC];omega) (meet_o [a, b] ((alike2 a b).2 ⟨ha, hb, hl⟩))
theorem cut_z (l : List EvS) (c : List Int) (hl : l.length ≤ 1000) : CallP Tryz.prog 15 [evs l, ints c] (evs (cutL l c)) :=
 CallA.fz (by have : (cutL l c).length ≤ l.length := List.length_filter_le _ _;omega) (cut_o l c hl)
theorem clock_z {n : Nat} {l : List EvS} (hn : 1 ≤ n ∧ n ≤ 5) (hc : ClosedE l) (hl : ∀ e ∈ l, e.past.length = n) : CallP Tryz.prog 37 [.val (.int .i64 n), evs l] (.tup [ints (clkE n l), .val (.int .i64 0)]) :=
 CallA.fzt (by rw [clkE_len];omega) (clock_ok n l hn hc hl)
def FitO (t : TblS) (u : UpS) : Prop := (isSt t.kind ↔ u.1 = 0 ∨ u.1 = 1) ∧ (¬ isSt t.kind → t.lo ≤ u.2.2 ∧ u.2.2 ≤ t.hi)
def SuitE (m : ModS) (l : List EvS) : Prop := MOK m ∧ FewV l ∧ ClosedE l ∧ FitU m ∧ ∀ e ∈ l, EvV m (n0 l : Nat) e
end Go.Proofs.YtajenkpjcbaadaaGreat
namespace Go.Proofs.YtajenkpjcbaadaaGreat
open Go Go.CF
set_option maxRecDepth 20000
theorem ordE_mem {l : List EvS} {e : EvS} : e ∈ ordE l ↔ e ∈ l := (ordE_perm l).mem_iff.symm
theorem uniqP_sub {l X : List EvS} (h : UniqP l) (hX : ∀ e ∈ X, e ∈ l) : UniqP X := fun a ha b hb => h a (hX a ha) b (hX b hb)
theorem uniq_sub {l : List EvS} (h : Uniq l) (c : List Int) : Uniq (cutL l c) := by
 have h1 : l.Pairwise fun a b => nm a ≠ nm b := by
  rw [List.pairwise_iff_getElem]
  intro i j hi hj hij h9
  have := h i j _ _ (List.getElem?_eq_getElem hi) (List.getElem?_eq_getElem hj) h9
  omega
 have h2 : (cutL l c).Pairwise fun a b => nm a ≠ nm b := h1.filter _
 intro i j a b ha hb hn
 obtain ⟨i1, rfl⟩ := List.getElem?_eq_some_iff.1 ha
 obtain ⟨j1, rfl⟩ := List.getElem?_eq_some_iff.1 hb
 rcases Nat.lt_trichotomy i j with h9|h9|h9
 ·exact absurd hn (List.pairwise_iff_getElem.1 h2 i j i1 j1 h9)
 ·exact h9
 ·exact absurd hn.symm (List.pairwise_iff_getElem.1 h2 j i j1 i1 h9)
theorem cut_len (l : List EvS) (c : List Int) : (cutL l c).length ≤ l.length := List.length_filter_le _ _
theorem cut_join {l : List EvS} {ac bc : List Int} (ha : Part l ac) (hb : Part l bc) (e : EvS) : e ∈ ordE (cutL l (joinC ac bc)) ↔ e ∈ cutL l ac ∨ e ∈ cutL l bc := by
 rw [ordE_mem, mem_cut, mem_cut, mem_cut, has_join ha.val hb.val (ha.len.trans hb.len.symm)]
 constructor
 ·rintro ⟨h, h1|h1⟩
  ·exact .inl ⟨h, h1⟩
  ·exact .inr ⟨h, h1⟩
 ·rintro (⟨h, h1⟩|⟨h, h1⟩)
  ·exact ⟨h, .inl h1⟩
  ·exact ⟨h, .inr h1⟩
end Go.Proofs.YtajenkpjcbaadaaGreat
namespace Go.Proofs.YtajenkpjcbaadaaGreat
open Go Go.CF
set_option maxRecDepth 20000
/-! ### The clock of events -/
theorem clk_key {n : Nat} : ∀ (A : List EvS) (c : List Int), c.length = n → (∀ x ∈ c, 0 ≤ x) → (∀ a ∈ A, a.rep.toNat < n ∧ 0 ≤ a.num) → ∀ q, q < n →
  ∃ y, (A.foldl (fun c e => c.set e.rep.toNat (max (c[e.rep.toNat]?.getD 0) e.num)) c)[q]? = some y ∧ 0 ≤ y ∧ ∀ k, 1 ≤ k → (k ≤ y ↔ (∃ z, c[q]? = some z ∧ k ≤ z) ∨ ∃ a ∈ A, a.rep.toNat = q ∧ k ≤ a.num) := by
 intro A
 induction A with
 | nil =>
  intro c hc h0 _ q hq
  obtain ⟨z, hz⟩ := get_of (l := c) (i := q) (by omega)
  exact ⟨z, hz, h0 z (List.mem_of_getElem? hz), fun k _ => by simp [hz]⟩
 | cons a A ih =>
  intro c hc h0 hA q hq
  obtain ⟨h1, h2⟩ := hA a (by simp)
  obtain ⟨u, hu⟩ := get_of (l := c) (i := a.rep.toNat) (by omega)
  have hu0 := h0 u (List.mem_of_getElem? hu)
  rw [List.foldl_cons]
  obtain ⟨y, e1, e2, e3⟩ := ih (c.set a.rep.toNat (max (c[a.rep.toNat]?.getD 0) a.num)) (by rw [List.length_set];exact hc) (fun x hx => by
   rcases List.mem_or_eq_of_mem_set hx with h|h
   ·exact h0 x h
   ·rw [h, hu, Option.getD_some];omega) (fun b hb => hA b (List.mem_cons_of_mem _ hb)) q hq
  refine ⟨y, e1, e2, fun k hk => (e3 k hk).trans ?_⟩
  rw [List.getElem?_set]
  by_cases hqa : a.rep.toNat = q
  ·subst hqa
   rw [if_pos rfl, if_pos (by omega), hu, Option.getD_some]
   constructor
   ·rintro (⟨z, hz, hkz⟩|⟨b, hb, hb1, hb2⟩)
    ·cases hz
     by_cases hku : k ≤ u
     ·exact .inl ⟨u, rfl, hku⟩
     ·exact .inr ⟨a, by simp, rfl, by omega⟩
    ·exact .inr ⟨b, List.mem_cons_of_mem _ hb, hb1, hb2⟩
   ·rintro (⟨z, hz, hkz⟩|⟨b, hb, hb1, hb2⟩)
    ·cases hz;exact .inl ⟨_, rfl, by omega⟩
    ·rcases List.mem_cons.1 hb with rfl|hb
     ·exact .inl ⟨_, rfl, by omega⟩
     ·exact .inr ⟨b, hb, hb1, hb2⟩
  ·rw [if_neg hqa]
   constructor
   ·rintro (h|⟨b, hb, hb1, hb2⟩)
    ·exact .inl h
    ·exact .inr ⟨b, List.mem_cons_of_mem _ hb, hb1, hb2⟩
   ·rintro (h|⟨b, hb, hb1, hb2⟩)
    ·exact .inl h
    ·rcases List.mem_cons.1 hb with rfl|hb
     ·exact absurd hb1 hqa
     ·exact .inr ⟨b, hb, hb1, hb2⟩
structure Cau (l A : List EvS) : Prop where
 sub : ∀ a ∈ A, a ∈ l
 cls : ∀ a ∈ A, ∀ d ∈ l, HasC a.past d.rep d.num → d ∈ A
theorem formed_rep {e : EvS} (h : FormedE e) : 0 ≤ e.rep ∧ e.rep.toNat < e.past.length ∧ 1 ≤ e.num := by
 obtain ⟨f1, f2, ⟨x, f3, f4⟩, _⟩ := h
 have := f1.1 x (List.mem_of_getElem? f3)
 unfold rngK at this
 exact ⟨f2, (List.getElem?_eq_some_iff.1 f3).1, by omega⟩
theorem n0_rng {l : List EvS} (hc : ClosedE l) {e : EvS} (he : e ∈ l) : 1 ≤ n0 l ∧ n0 l ≤ 5 := by
 have h := hc.2.2.1 e he
 rw [← h.2];exact h.1.1.2
theorem clkE_at {l A : List EvS} (hc : ClosedE l) (hA : ∀ a ∈ A, a ∈ l) {q : Nat} (hq : q < n0 l) : ∃ y, (clkE (n0 l) A)[q]? = some y ∧ 0 ≤ y ∧ ∀ k, 1 ≤ k → (k ≤ y ↔ ∃ a ∈ A, a.rep.toNat = q ∧ k ≤ a.num) := by
 obtain ⟨y, h1, h2, h3⟩ := clk_key (n := n0 l) A (List.replicate (n0 l) 0) (by simp) (fun x hx => by rw [(List.mem_replicate.1 hx).2];exact Int.le_refl 0) (fun a ha => by
  have hf := hc.2.2.1 a (hA a ha)
  have := formed_rep hf.1
  rw [hf.2] at this
  exact ⟨this.2.1, by omega⟩) q hq
 refine ⟨y, h1, h2, fun k hk => (h3 k hk).trans ⟨fun h => h.elim (fun ⟨z, hz, hkz⟩ => ?_) id, .inr⟩⟩
 rw [List.getElem?_replicate, if_pos hq] at hz
 cases hz;omega
theorem clk_valC {l A : List EvS} (hc : ClosedE l) (hA : ∀ a ∈ A, a ∈ l) (hn : 1 ≤ n0 l ∧ n0 l ≤ 5) : ValC (clkE (n0 l) A) := clkE_val hn fun e he => formed_num (hc.2.2.1 e (hA e he)).1
theorem clk_has {l A : List EvS} (hc : ClosedE l) (hA : Cau l A) {e : EvS} (he : e ∈ l) : HasC (clkE (n0 l) A) e.rep e.num ↔ e ∈ A := by
 have hf := hc.2.2.1 e he
 have hr := formed_rep hf.1
 rw [hf.2] at hr
 obtain ⟨y, h1, h2, h3⟩ := clkE_at hc hA.sub hr.2.1
 constructor
 ·rintro ⟨_, _, _, x, hx, hnx⟩
  rw [h1] at hx;cases hx
  obtain ⟨a, ha, ha1, ha2⟩ := (h3 e.num hr.2.2).1 hnx
  have hfa := formed_rep (hc.2.2.1 a (hA.sub a ha)).1
  have har : e.rep = a.rep := by omega
  by_cases hlt : e.num < a.num
  ·exact hA.cls a ha e he (has_of_lt hc (hA.sub a ha) he har hlt)
  ·have := uniqP_of hc.2.1 e he a (hA.sub a ha) har (by omega)
   rw [this];exact ha
 ·intro h
  exact ⟨clk_valC hc hA.sub (n0_rng hc he), hr.1, hr.2.2, y, h1, (h3 e.num hr.2.2).2 ⟨e, h, rfl, Int.le_refl _⟩⟩
theorem clk_ins {l A : List EvS} (hc : ClosedE l) (hA : Cau l A) {e : EvS} (he : e ∈ l) (hp : ∀ d ∈ l, HasC e.past d.rep d.num → d ∈ A) : Ins e.past (clkE (n0 l) A) := fun i x y hx hy => by
 have hf := hc.2.2.1 e he
 have hil := (List.getElem?_eq_some_iff.1 hx).1
 obtain ⟨z, h1, h2, h3⟩ := clkE_at hc hA.sub (q := i) (by rw [← hf.2];exact hil)
 rw [hy] at h1;cases h1
 by_cases hx1 : 1 ≤ x
 ·obtain ⟨d, hd, g1, g2, _, _⟩ := hc.2.2.2 e he i x hx x hx1 (Int.le_refl _)
  have hdA := hp d hd ⟨hf.1.1, by omega, by omega, x, by rw [g1];simpa using hx, by omega⟩
  exact (h3 x hx1).2 ⟨d, hdA, by omega, by omega⟩
 ·omega
/-! ### States -/
theorem add1_len (s : List Int) (p : Int × Int) : (add1 s p).length = s.length := by simp [add1]
theorem addD_len (d : List (Int × Int)) : ∀ s : List Int, (addD s d).length = s.length := by
 induction d with
 | nil => intro s;rfl
 | cons p d ih => intro s;rw [addD, List.foldl_cons];exact (ih _).trans (add1_len s p)
theorem addE_len (m : ModS) (s : List Int) (e : EvS) : (addE m s e).length = s.length := by
 unfold addE;split
 ·exact addD_len _ s
 ·rfl
theorem wrap_id {x : Int} (h : -9223372036854775808 ≤ x ∧ x ≤ 9223372036854775807) : IntKind.i64.wrap x = x := by rw [IntKind.wrap_i64];omega
theorem addD_bnd (d : List (Int × Int)) : ∀ (s : List Int) (B : Int), 0 ≤ B → B + 1000 * d.length ≤ 1000000000 → (∀ x ∈ s, -B ≤ x ∧ x ≤ B) → (∀ p ∈ d, -1000 ≤ p.2 ∧ p.2 ≤ 1000) → ∀ x ∈ addD s d, -(B + 1000 * d.length) ≤ x ∧ x ≤ B + 1000 * d.length := by
 induction d with
 | nil => intro s B _ _ h _ x hx;have := h x hx;simp only [List.length_nil];omega
 | cons p d ih =>
  intro s B hB hb h hd x hx
  simp only [List.length_cons] at hb ⊢
  have hp := hd p (by simp)
  have h1 : ∀ x ∈ add1 s p, -(B + 1000) ≤ x ∧ x ≤ B + 1000 := fun x hx => by
   rcases List.mem_or_eq_of_mem_set hx with h9|h9
   ·have := h x h9;omega
   ·have h0 : -B ≤ s[p.1.toNat]?.getD 0 ∧ s[p.1.toNat]?.getD 0 ≤ B := by
     cases hs : s[p.1.toNat]? with
     | none => simp only [Option.getD_none];omega
     | some z => exact h z (List.mem_of_getElem? hs)
    rw [h9, wrap_id (by omega)]
    omega
  have := ih (add1 s p) (B + 1000) (by omega) (by omega) h1 (fun q hq => hd q (List.mem_cons_of_mem _ hq)) x hx
  omega
def SmD (m : ModS) : Prop := ∀ a ∈ m.acts, a.eff.delta.length ≤ 20 ∧ ∀ p ∈ a.eff.delta, -1000 ≤ p.2 ∧ p.2 ≤ 1000
theorem dlt_sm {m : ModS} (h : SmD m) (e : EvS) : (dltF m e).length ≤ 20 ∧ ∀ p ∈ dltF m e, -1000 ≤ p.2 ∧ p.2 ≤ 1000 := by
 unfold dltF
 cases ha : m.acts[e.action.toNat]? with
 | none => simp
 | some a => exact h a (List.mem_of_getElem? ha)
theorem addE_bnd {m : ModS} (h : SmD m) (e : EvS) {s : List Int} {k : Nat} (hk : k ≤ 1000) (hs : ∀ x ∈ s, -(1000 + 20000 * (k : Int)) ≤ x ∧ x ≤ 1000 + 20000 * (k : Int)) : ∀ x ∈ addE m s e, -(1000 + 20000 * ((k + 1 : Nat) : Int)) ≤ x ∧ x ≤ 1000 + 20000 * ((k + 1 : Nat) : Int) := by
 intro x hx
 unfold addE at hx
 split at hx
 ·obtain ⟨d1, d2⟩ := dlt_sm h e
  have := addD_bnd (dltF m e) s (1000 + 20000 * (k : Int)) (by omega) (by omega) hs d2 x hx
  omega
 ·have := hs x hx;omega
structure StoA (m : ModS) (l : List EvS) (ld : List Int) (A : List EvS) (w : NowS) : Prop where
 clock : w.clock = clkE (n0 l) A
 time : w.time = A.foldl (fun t e => max t e.time) 0
 state : w.state = A.foldl (addE m) ld
 merged : KnL m A w.merged
 places : w.places = A.foldl plE []
theorem sto_bnd {m : ModS} (h : SmD m) {ld : List Int} (hl : ∀ x ∈ ld, -1000 ≤ x ∧ x ≤ 1000) : ∀ (A : List EvS), A.length ≤ 1000 → ∀ x ∈ A.foldl (addE m) ld, -(1000 + 20000 * (A.length : Int)) ≤ x ∧ x ≤ 1000 + 20000 * (A.length : Int) := by
 have key : ∀ (A : List EvS), A.reverse.length ≤ 1000 → ∀ x ∈ A.reverse.foldl (addE m) ld, -(1000 + 20000 * (A.reverse.length : Int)) ≤ x ∧ x ≤ 1000 + 20000 * (A.reverse.length : Int) := by
  intro A
  induction A with
  | nil => intro _ x hx;have := hl x hx;simp;omega
  | cons e A ih =>
   intro hA x hx
   rw [List.reverse_cons, List.foldl_append] at hx
   rw [List.length_reverse, List.length_cons] at hA
   have h2 := addE_bnd h e (k := A.reverse.length) (by simp;omega) (ih (by simp;omega)) x hx
   simpa using h2
 intro A hA
 have := key A.reverse (by simpa using hA)
 simpa using this
theorem nxt_cau {l A : List EvS} (hc : ClosedE l) (hA : Cau l A) {e : EvS} (he : e ∈ l) (hn : e ∉ A) : Nxt A e := by
 have hu := uniqP_of hc.2.1
 refine ⟨fun p hp ⟨h1, h2⟩ => hn ?_, fun p hp hh => hn (hA.cls p hp e he hh), fun p hp ⟨h1, h2⟩ => ?_, has_self (hc.2.2.1 e he).1⟩
 ·rw [← hu p (hA.sub p hp) e he h1 h2];exact hp
 ·rcases Int.lt_trichotomy p.num e.num with h|h|h
  ·have := (closed_past hc he (hA.sub p hp) (has_of_lt hc he (hA.sub p hp) h2 h)).1
   omega
  ·exact hn (by rw [← hu p (hA.sub p hp) e he h2 h];exact hp)
  ·exact hn (hA.cls p hp e he (has_of_lt hc (hA.sub p hp) he h2.symm h))
theorem deliver_ok {m : ModS} {l A : List EvS} {ld : List Int} {w : NowS} {e : EvS} (hs : SuitE m l) (hl : l.length ≤ 100) (hd : SmD m) (hld : ∀ x ∈ ld, -1000 ≤ x ∧ x ≤ 1000) (hw : StoA m l ld A w) (hAl : A.length ≤ 100) (hA : Cau l A) (he : e ∈ l) (hn : e ∉ A) (hp : ∀ d ∈ l, HasC e.past d.rep d.num → d ∈ A) :
  ∃ w', deliverF m A w e = (0, w') ∧ StoA m l ld (A ++ [e]) w' := by
 obtain ⟨hm, hfw, hc, hf, hv⟩ := hs
 have hnx := nxt_cau hc hA he hn
 have hu : UniqP A := uniqP_sub (uniqP_of hc.2.1) hA.sub
 have hval := hw.merged.valL hm.lay hf hu (fun x hx => (hc.2.2.1 x (hA.sub x hx)).1) (by omega)
 have hpl : e.past.length = n0 l := (hc.2.2.1 e he).2
 have hev : EvV m (e.past.length : Nat) e := by rw [hpl];exact hv e he
 obtain ⟨k', a1, a2, -⟩ := apply_step hm.lay hval (by omega) hw.merged hev hnx
 have hclen : w.clock.length = n0 l := by rw [hw.clock, clkE_len]
 have hb := addE_bnd hd e (k := A.length) (by omega) (sto_bnd hd hld A (by omega))
 have h1 : EvV m (w.clock.length : Nat) e := by rw [hclen];exact hv e he
 have h2 : ¬ HasC w.clock e.rep e.num := by rw [hw.clock];exact fun h => hn ((clk_has hc hA he).1 h)
 have h3 : Ins e.past w.clock := by rw [hw.clock];exact clk_ins hc hA he hp
 have h4 : ¬ LateE A e := fun ⟨x, hx, hh, ht⟩ => by
  have := (closed_past hc he (hA.sub x hx) hh).1
  omega
 have h5 : ¬ (e.kind = 0 ∧ ¬ insS (addE m w.state e)) := fun ⟨_, h⟩ => h fun x hx => by
  rw [hw.state] at hx
  have := hb x hx
  omega
 have h6 : ¬ (applyF m w.merged e).1 ≠ 0 := by rw [a1];exact fun h => h rfl
 refine ⟨⟨cntF w.clock e, max w.time e.time, addE m w.state e, k', plE w.places e⟩, ?_, ⟨?_, ?_, ?_, a2, ?_⟩⟩
 ·rw [deliverF, if_neg (fun h => h h1), if_neg h2, if_neg (fun h => h h3), if_neg h4, if_neg h5, if_neg h6, a1]
 ·simp only [hw.clock, clkE, List.foldl_append, cntF];rfl
 ·simp only [hw.time, List.foldl_append];rfl
 ·simp only [hw.state, List.foldl_append];rfl
 ·simp only [hw.places, List.foldl_append];rfl
end Go.Proofs.YtajenkpjcbaadaaGreat
namespace Go.Proofs.YtajenkpjcbaadaaGreat
open Go Go.CF
set_option maxRecDepth 20000
structure ExtO (l X : List EvS) : Prop where
 sub : ∀ e ∈ X, e ∈ l
 nxt : ∀ (i : Nat) e, X[i]? = some e → e ∉ X.take i ∧ ∀ d ∈ l, HasC e.past d.rep d.num → d ∈ X.take i
theorem ExtO.nil (l : List EvS) : ExtO l [] := ⟨fun e h => (by cases h), fun i e h => by simp at h⟩
theorem ExtO.snoc {l X : List EvS} {e : EvS} (h : ExtO l X) (he : e ∈ l) (hn : e ∉ X) (hp : ∀ d ∈ l, HasC e.past d.rep d.num → d ∈ X) : ExtO l (X ++ [e]) := by
 refine ⟨fun a ha => (List.mem_append.1 ha).elim (h.sub a) fun ha => by rw [List.mem_singleton.1 ha];exact he, fun i a ha => ?_⟩
 have hi := (List.getElem?_eq_some_iff.1 ha).1
 rw [List.length_append, List.length_singleton] at hi
 by_cases hx : i < X.length
 ·rw [List.getElem?_append_left hx] at ha
  rw [List.take_append_of_le_length (by omega)]
  exact h.nxt i a ha
 ·have : i = X.length := by omega
  subst this
  rw [List.getElem?_append_right (Nat.le_refl _), Nat.sub_self] at ha
  cases ha
  rw [List.take_left]
  exact ⟨hn, hp⟩
theorem ExtO.cau {l X : List EvS} (h : ExtO l X) (i : Nat) : Cau l (X.take i) := by
 refine ⟨fun a ha => h.sub a (List.mem_of_mem_take ha), fun a ha d hd hh => ?_⟩
 obtain ⟨j, hj⟩ := List.getElem?_of_mem ha
 rw [List.getElem?_take] at hj
 split at hj
 ·rename_i hji
  have := (h.nxt j a hj).2 d hd hh
  rw [show X.take j = (X.take i).take j by rw [List.take_take, Nat.min_eq_left (by omega)]] at this
  exact List.mem_of_mem_take this
 ·cases hj
theorem ExtO.all {l X : List EvS} (h : ExtO l X) : Cau l X := by
 have := h.cau X.length
 rwa [List.take_length] at this
theorem sto0 (m : ModS) (l : List EvS) (ld : List Int) : StoA m l ld [] ⟨List.replicate (n0 l) 0, 0, ld, List.replicate (mrgF m).length mg0, []⟩ := ⟨rfl, rfl, rfl, KnL.nil m, rfl⟩
theorem foldl_perm {α β : Type} {f : β → α → β} (hf : ∀ b x y, f (f b x) y = f (f b y) x) {l l' : List α} (h : l.Perm l') : ∀ b, l.foldl f b = l'.foldl f b := by
 induction h with
 | nil => exact fun _ => rfl
 | cons x _ ih => exact fun b => ih (f b x)
 | swap x y l => intro b;simp only [List.foldl_cons];rw [hf]
 | trans _ _ h1 h2 => exact fun b => (h1 b).trans (h2 b)
theorem wrap_add {x p q : Int} : IntKind.i64.wrap (IntKind.i64.wrap (x + p) + q) = IntKind.i64.wrap (IntKind.i64.wrap (x + q) + p) := by
 simp only [IntKind.wrap_i64];omega
theorem add1_comm (s : List Int) (p q : Int × Int) : add1 (add1 s p) q = add1 (add1 s q) p := by
 unfold add1
 by_cases h : p.1.toNat = q.1.toNat
 ·rw [h]
  by_cases hl : q.1.toNat < s.length
  ·simp only [List.getElem?_set_self hl, Option.getD_some, List.set_set, wrap_add]
  ·simp only [List.set_eq_of_length_le (show s.length ≤ q.1.toNat by omega)]
 ·rw [List.getElem?_set_ne h, List.getElem?_set_ne (fun h9 => h h9.symm), List.set_comm _ _ h]
theorem addD_add1 (d : List (Int × Int)) : ∀ (s : List Int) (p : Int × Int), addD (add1 s p) d = add1 (addD s d) p := by
 induction d with
 | nil => exact fun _ _ => rfl
 | cons q d ih =>
  intro s p
  have h1 : addD (add1 s p) (q :: d) = addD (add1 (add1 s p) q) d := rfl
  have h2 : addD s (q :: d) = addD (add1 s q) d := rfl
  rw [h1, h2, add1_comm, ih]
theorem addD_comm (d : List (Int × Int)) : ∀ (s : List Int) (d' : List (Int × Int)), addD (addD s d) d' = addD (addD s d') d := by
 induction d with
 | nil => exact fun _ _ => rfl
 | cons q d ih =>
  intro s d'
  have h1 : ∀ s, addD s (q :: d) = addD (add1 s q) d := fun _ => rfl
  rw [h1, h1, ih, addD_add1]
theorem addE_comm (m : ModS) (s : List Int) (a b : EvS) : addE m (addE m s a) b = addE m (addE m s b) a := by
 unfold addE
 split <;> split <;> first|rfl|exact addD_comm _ _ _
theorem state_perm {m : ModS} {l l' : List EvS} (h : l.Perm l') (ld : List Int) : l.foldl (addE m) ld = l'.foldl (addE m) ld := foldl_perm (addE_comm m) h ld
theorem clkE_perm {n : Nat} {l l' : List EvS} (h : l.Perm l') : clkE n l = clkE n l' := by
 unfold clkE
 refine foldl_perm (fun c x y => ?_) h _
 by_cases hr : x.rep.toNat = y.rep.toNat
 ·rw [hr]
  by_cases hl : y.rep.toNat < c.length
  ·simp only [List.getElem?_set_self hl, Option.getD_some, List.set_set]
   congr 1;omega
  ·simp only [List.set_eq_of_length_le (show c.length ≤ y.rep.toNat by omega)]
 ·rw [List.getElem?_set_ne hr, List.getElem?_set_ne (fun h9 => hr h9.symm), List.set_comm _ _ hr]
/-! ### Places -/
noncomputable def plL (l : List EvS) : List Int := (l.filter fun e => decide (0 < e.place)).map (·.place)
theorem withP_si {l s : List Int} {n : Int} (h : SI l s) : SI (l ++ [n]) (withP s n) := by
 unfold withP
 split
 ·rename_i hn;exact si_keep h hn
 ·rename_i hn
  refine ⟨List.pairwise_append.2 ⟨h.1.filter _, List.pairwise_cons.2 ⟨fun y hy => by simpa using (List.mem_filter.1 hy).2, h.1.filter _⟩, fun a ha b hb => ?_⟩, fun y => ?_⟩
  ·have ha : a < n := by simpa using (List.mem_filter.1 ha).2
   rcases List.mem_cons.1 hb with rfl|hb
   ·exact ha
   ·have hb : n < b := by simpa using (List.mem_filter.1 hb).2
    omega
  ·constructor
   ·intro h9
    rcases List.mem_append.1 h9 with h9|h9
    ·exact List.mem_append.2 (.inl ((h.2 y).1 (List.mem_filter.1 h9).1))
    ·rcases List.mem_cons.1 h9 with rfl|h9
     ·simp
     ·exact List.mem_append.2 (.inl ((h.2 y).1 (List.mem_filter.1 h9).1))
   ·intro h9
    rcases List.mem_append.1 h9 with h9|h9
    ·have hy := (h.2 y).2 h9
     have hne : y ≠ n := fun e => hn (e ▸ hy)
     by_cases hlt : y < n
     ·exact List.mem_append.2 (.inl (List.mem_filter.2 ⟨hy, by simpa using hlt⟩))
     ·exact List.mem_append.2 (.inr (List.mem_cons.2 (.inr (List.mem_filter.2 ⟨hy, by simp only [decide_eq_true_eq];omega⟩))))
    ·rw [List.mem_singleton.1 h9];simp
theorem plE_si {l : List EvS} : ∀ {P : List Int} {s : List Int}, SI P s → SI (P ++ plL l) (l.foldl plE s) := by
 induction l with
 | nil => intro P s h;simpa [plL] using h
 | cons e l ih =>
  intro P s h
  rw [List.foldl_cons]
  by_cases he : 0 < e.place
  ·have h1 := ih (withP_si (n := e.place) h)
   rw [show plE s e = withP s e.place from if_pos he]
   rw [show P ++ plL (e :: l) = P ++ [e.place] ++ plL l by simp [plL, he]]
   exact h1
  ·rw [show plE s e = s from if_neg he]
   rw [show P ++ plL (e :: l) = P ++ plL l by simp [plL, he]]
   exact ih h
theorem places_srt (l : List EvS) : l.foldl plE [] = srtD (plL l) := by
 have h : SI ([] ++ plL l) (l.foldl plE []) := plE_si ⟨List.Pairwise.nil, by simp⟩
 rw [List.nil_append] at h
 exact h.uniq (srtD_si _)
end Go.Proofs.YtajenkpjcbaadaaGreat
namespace Go.Proofs.YtajenkpjcbaadaaGreat
open Go Go.CF
set_option maxRecDepth 20000
theorem Kn.put2 {m : ModS} {t : TblS} {i : Nat} {P : List EvS} {g : MgS} (h : Kn m t i P g) (k : t.kind ≠ 3) : g.put = false := by
 cases hp : g.put
 ·rfl
 ·exact absurd (h.put.1 hp).1 k
end Go.Proofs.YtajenkpjcbaadaaGreat
namespace Go.Proofs.YtajenkpjcbaadaaGreat
open Go Go.CF
set_option maxRecDepth 20000
abbrev WrS := EvS × UpS
def wrF (m : ModS) (l : List EvS) (i : Nat) : List WrS := l.filterMap fun e => (updE m e i).map fun u => (e, u)
theorem wr_mem {m : ModS} {l : List EvS} {i : Nat} {w : WrS} : w ∈ wrF m l i ↔ w.1 ∈ l ∧ updE m w.1 i = some w.2 := by
 unfold wrF
 rw [List.mem_filterMap]
 constructor
 ·rintro ⟨e, he, h⟩
  cases hu : updE m e i with
  | none => rw [hu] at h;cases h
  | some u => rw [hu] at h;cases h;exact ⟨he, hu⟩
 ·rintro ⟨h1, h2⟩
  exact ⟨w.1, h1, by rw [h2];rfl⟩
def SeenW (e : EvS) (W : List WrS) (k : Int) : Prop := ∃ x ∈ W, x.2.1 = k ∧ HasC x.1.past e.rep e.num
noncomputable instance (e : EvS) (W : List WrS) (k : Int) : Decidable (SeenW e W k) := Classical.propDecidable _
def LtT (a b : EvS) : Prop := a.time < b.time ∨ a.time = b.time ∧ a.rep < b.rep
def Live0 (W : List WrS) : Prop := ∃ w ∈ W, w.2.1 = 0 ∧ ¬ SeenW w.1 W 1
def In1 (W : List WrS) : Prop := (∃ w ∈ W, w.2.1 = 0) ∧ ¬ ∃ w ∈ W, w.2.1 = 1 ∧ ¬ SeenW w.1 W 0
noncomputable instance (W : List WrS) : Decidable (Live0 W) := Classical.propDecidable _
noncomputable instance (W : List WrS) : Decidable (In1 W) := Classical.propDecidable _
noncomputable def vals5 (W : List WrS) : List Int := (W.filter fun w => decide (w.2.1 = 2 ∧ ¬ SeenW w.1 W 2)).map (·.2.2.2)
structure ValD (t : TblS) (W : List WrS) (r : List Int) : Prop where
 two : t.kind = 2 → r = [if Live0 W then 1 else 0]
 three : t.kind = 3 → r = [if In1 W then 1 else 0]
 four : t.kind = 4 → ((∀ w ∈ W, w.2.1 ≠ 2) ∧ r = [iniT t]) ∨ ∃ w ∈ W, w.2.1 = 2 ∧ r = [w.2.2.2] ∧ ∀ x ∈ W, x.2.1 = 2 → ¬ LtT w.1 x.1
 five : t.kind = 5 → r = if vals5 W = [] then [iniT t] else srtD (vals5 W)
theorem srtD_set {l l' : List Int} (h : ∀ x, x ∈ l ↔ x ∈ l') : srtD l = srtD l' :=
 (srtD_si l).uniq ⟨(srtD_si l').1, fun x => ((srtD_si l').2 x).trans (h x).symm⟩
theorem srtD_one (x : Int) : srtD [x] = [x] := (srtD_si [x]).uniq ⟨List.pairwise_singleton _ _, fun _ => Iff.rfl⟩
theorem same_tr {l : List EvS} (hc : ClosedE l) {a b : EvS} (ha : a ∈ l) (hb : b ∈ l) (ht : a.time = b.time) (hr : a.rep = b.rep) : a = b := by
 rcases Int.lt_trichotomy a.num b.num with h|h|h
 ·have := (closed_past hc hb ha (has_of_lt hc hb ha hr h)).1;omega
 ·exact uniqP_of hc.2.1 a ha b hb hr h
 ·have := (closed_past hc ha hb (has_of_lt hc ha hb hr.symm h)).1;omega
theorem liv_wr {m : ModS} {t : TblS} {i : Nat} {l : List EvS} {x : MkS} : Liv m t i l x ↔ ∃ w ∈ wrF m l i, w.2.1 = bK t.kind ∧ x = mkE t w.1 w.2 ∧ ¬ SeenW w.1 (wrF m l i) (kK t.kind) := by
 constructor
 ·rintro ⟨e, he, u, h1, h2, h3, h4⟩
  refine ⟨(e, u), wr_mem.2 ⟨he, h1⟩, h2, h3, fun ⟨y, hy, hk, hh⟩ => ?_⟩
  obtain ⟨y1, y2⟩ := wr_mem.1 hy
  exact h4 y.1 y1 y.2 y2 hk hh
 ·rintro ⟨w, hw, h2, h3, h4⟩
  obtain ⟨w1, w2⟩ := wr_mem.1 hw
  exact ⟨w.1, w1, w.2, w2, h2, h3, fun d hd v hv hk hh => h4 ⟨(d, v), wr_mem.2 ⟨hd, hv⟩, hk, hh⟩⟩
theorem asg_wr {m : ModS} {t : TblS} {i : Nat} {l : List EvS} {x : MkS} : Asg m t i l x ↔ ∃ w ∈ wrF m l i, w.2.1 = bK t.kind ∧ x = mkE t w.1 w.2 := by
 constructor
 ·rintro ⟨e, he, u, h1, h2, h3⟩
  exact ⟨(e, u), wr_mem.2 ⟨he, h1⟩, h2, h3⟩
 ·rintro ⟨w, hw, h2, h3⟩
  obtain ⟨w1, w2⟩ := wr_mem.1 hw
  exact ⟨w.1, w1, w.2, w2, h2, h3⟩
theorem marks_nil {t : TblS} {m : ModS} {i : Nat} {l : List EvS} {g : MgS} (h : Kn m t i l g) (k4 : t.kind ≠ 4) : g.marks.length = 0 ↔ ¬ ∃ w ∈ wrF m l i, w.2.1 = bK t.kind ∧ ¬ SeenW w.1 (wrF m l i) (kK t.kind) := by
 constructor
 ·rintro h0 ⟨w, hw, h1, h2⟩
  have := (h.liv k4 (mkE t w.1 w.2)).2 (liv_wr.2 ⟨w, hw, h1, rfl, h2⟩)
  rw [List.eq_nil_of_length_eq_zero h0] at this
  cases this
 ·intro hn
  rcases Nat.eq_zero_or_pos g.marks.length with h0|h0
  ·exact h0
  ·obtain ⟨x, hx⟩ := get_of (l := g.marks) (i := 0) h0
   obtain ⟨w, hw, h1, _, h2⟩ := liv_wr.1 ((h.liv k4 x).1 (List.mem_of_getElem? hx))
   exact absurd ⟨w, hw, h1, h2⟩ hn
theorem valD_eq {m : ModS} {t : TblS} {i : Nat} {l : List EvS} {g : MgS} {r : List Int} (hk : Kd t) (hc : ClosedE l) (h : Kn m t i l g) (hd : ValD t (wrF m l i) r) : r = valK t g := by
 rcases hk with k|k|k|k
 ·have hv : valK t g = setV t g := if_pos (.inl k)
  have hb : setB t g = (g.put || decide (0 < g.marks.length)) := if_pos k
  rw [hd.two k, hv, setV, hb, h.put2 (by omega), Bool.false_or]
  have h1 := marks_nil h (by omega)
  rw [k] at h1
  change g.marks.length = 0 ↔ ¬ Live0 (wrF m l i) at h1
  congr 1
  by_cases hl : Live0 (wrF m l i)
  ·have : ¬ g.marks.length = 0 := fun h9 => h1.1 h9 hl
   rw [if_pos hl, if_pos (by simp;omega)]
  ·have : g.marks.length = 0 := h1.2 hl
   rw [if_neg hl, if_neg (fun h9 => by have := of_decide_eq_true h9;omega)]
 ·have h1 := marks_nil h (by omega)
  rw [k] at h1
  have hv : valK t g = setV t g := if_pos (.inr k)
  have hb : setB t g = (g.put && !g.drop && decide (g.marks.length = 0)) := if_neg (show ¬ t.kind = 2 by omega)
  rw [hd.three k, hv, setV, hb, h.drop, Bool.not_false, Bool.and_true]
  have h2 : g.put = true ↔ ∃ w ∈ wrF m l i, w.2.1 = 0 := by
   rw [h.put]
   constructor
   ·rintro ⟨_, e, he, u, h3, h4⟩
    exact ⟨(e, u), wr_mem.2 ⟨he, h3⟩, h4⟩
   ·rintro ⟨w, hw, h3⟩
    obtain ⟨w1, w2⟩ := wr_mem.1 hw
    exact ⟨k, w.1, w1, w.2, w2, h3⟩
  congr 1
  by_cases hl : In1 (wrF m l i)
  ·have h3 : g.put = true := h2.2 hl.1
   have h4 : g.marks.length = 0 := h1.2 hl.2
   rw [if_pos hl, if_pos (by simp [h3, h4])]
  ·rw [if_neg hl, if_neg fun h9 => hl ?_]
   rw [Bool.and_eq_true, decide_eq_true_eq] at h9
   exact ⟨h2.1 h9.1, h1.1 h9.2⟩
 ·have hr : isReg t.kind := .inl k
  have hb : bK t.kind = 2 := by rw [k];rfl
  have hv : valK t g = if g.marks.length = 0 then [iniT t] else srtD (g.marks.map MkS.val) := if_neg (show ¬ (t.kind = 2 ∨ t.kind = 3) by omega)
  rw [hv]
  rcases h.four k with ⟨h1, h2⟩|⟨x, h1, h2, h3⟩
  ·rw [h1, if_pos (by rfl)]
   rcases hd.four k with ⟨_, h4⟩|⟨w, hw, h4, _⟩
   ·exact h4
   ·exact absurd (asg_wr.2 ⟨w, hw, by rw [hb];exact h4, rfl⟩) (h2 _)
  ·rw [h1, if_neg (by simp), List.map_cons, List.map_nil, srtD_one]
   obtain ⟨v, hv, v1, rfl⟩ := asg_wr.1 h2
   rcases hd.four k with ⟨h4, _⟩|⟨w, hw, h4, h5, h6⟩
   ·exact absurd (by rw [← hb];exact v1) (h4 v hv)
   ·have g1 := h3 _ (asg_wr.2 ⟨w, hw, by rw [hb];exact h4, rfl⟩)
    have g2 := h6 v hv (by rw [← hb];exact v1)
    obtain ⟨a1, a2⟩ := wr_mem.1 hw
    obtain ⟨b1, b2⟩ := wr_mem.1 hv
    have he : v.1 = w.1 := by
     refine same_tr hc b1 a1 ?_ ?_ <;> (unfold LtK mkE at g1;unfold LtT at g2;simp only at g1;omega)
    have hu : v.2 = w.2 := by rw [he, a2] at b2;exact (Option.some.inj b2).symm
    rw [h5, mkE, if_pos hr, hu]
 ·have hr : isReg t.kind := .inr k
  have hb : bK t.kind = 2 := by rw [k];rfl
  have hkk : kK t.kind = 2 := by rw [k];rfl
  have hv : valK t g = if g.marks.length = 0 then [iniT t] else srtD (g.marks.map MkS.val) := if_neg (show ¬ (t.kind = 2 ∨ t.kind = 3) by omega)
  rw [hv, hd.five k]
  have hmem : ∀ x, x ∈ vals5 (wrF m l i) ↔ x ∈ g.marks.map MkS.val := fun x => by
   unfold vals5
   rw [List.mem_map, List.mem_map]
   constructor
   ·rintro ⟨w, hw, rfl⟩
    obtain ⟨w1, w2⟩ := List.mem_filter.1 hw
    have w2 := of_decide_eq_true w2
    exact ⟨mkE t w.1 w.2, (h.liv (by omega) _).2 (liv_wr.2 ⟨w, w1, by rw [hb];exact w2.1, rfl, by rw [hkk];exact w2.2⟩), by rw [mkE, if_pos hr]⟩
   ·rintro ⟨y, hy, rfl⟩
    obtain ⟨w, hw, h1, rfl, h2⟩ := liv_wr.1 ((h.liv (by omega) y).1 hy)
    exact ⟨w, List.mem_filter.2 ⟨hw, decide_eq_true ⟨by rw [← hb];exact h1, by rw [← hkk];exact h2⟩⟩, by rw [mkE, if_pos hr]⟩
  by_cases h0 : g.marks.length = 0
  ·have : vals5 (wrF m l i) = [] := List.eq_nil_iff_forall_not_mem.2 fun x hx => by
    have := (hmem x).1 hx
    rw [List.eq_nil_of_length_eq_zero h0] at this
    cases this
   rw [if_pos this, if_pos h0]
  ·have : ¬ vals5 (wrF m l i) = [] := fun h9 => by
    obtain ⟨x, hx⟩ := get_of (l := g.marks) (i := 0) (by omega)
    have := (hmem x.val).2 (List.mem_map.2 ⟨x, List.mem_of_getElem? hx, rfl⟩)
    rw [h9] at this
    cases this
   rw [if_neg this, if_neg h0, srtD_set hmem]
end Go.Proofs.YtajenkpjcbaadaaGreat
namespace Go.Proofs.YtajenkpjcbaadaaGreat
open Go Go.CF
set_option maxRecDepth 20000
/-! ### What is made -/
/-! ### Closed parts -/
theorem n0_cut {l : List EvS} (hc : ClosedE l) {k : List Int} (h : cutL l k ≠ []) : n0 (cutL l k) = n0 l := by
 obtain ⟨e, he⟩ : ∃ e, (cutL l k)[0]? = some e := get_of (by
  rcases Nat.eq_zero_or_pos (cutL l k).length with h0|h0
  ·exact absurd (List.eq_nil_of_length_eq_zero h0) h
  ·exact h0)
 have h1 := (hc.2.2.1 e (mem_cut.1 (List.mem_of_getElem? he)).1).2
 rw [n0, he]
 exact h1
theorem part_closed {l : List EvS} (hc : ClosedE l) {k : List Int} (hk : Part l k) (h : cutL l k ≠ []) : ClosedE (cutL l k) := by
 have hn := n0_cut hc h
 refine ⟨Nat.le_trans (cut_len l k) hc.1, uniq_sub hc.2.1 k, fun e he => by rw [hn];exact hc.2.2.1 e (mem_cut.1 he).1, fun e he r n hr i h1 h2 => ?_⟩
 have hel := (mem_cut.1 he).1
 obtain ⟨x, hx, g1, g2, g3, g4⟩ := hc.2.2.2 e hel r n hr i h1 h2
 refine ⟨x, hk.cls e he x hx ⟨(hc.2.2.1 e hel).1.1, by omega, by omega, n, by rw [g1];simpa using hr, by omega⟩, g1, g2, g3, g4⟩
theorem partC_ev {l : List EvS} {c : List Int} (hc : ClosedE l) (hv : ValC c) (hl : c.length = n0 l) : ∀ (i : Nat) x, (partC l c)[i]? = some x → 1 ≤ x → ∃ e ∈ l, e.rep.toNat = i ∧ 0 ≤ e.rep ∧ e.num = x := by
 let Q : List Int → Prop := fun k => ∀ (i : Nat) x, k[i]? = some x → 1 ≤ x → ∃ e ∈ l, e.rep.toNat = i ∧ 0 ≤ e.rep ∧ e.num = x
 have hp1 := part1_ok hc hv hl
 -- any number that is at most one of the clock of the list
 have key : ∀ q, q < n0 l → ∀ y x : Int, (clkE (n0 l) l)[q]? = some y → 1 ≤ x → x ≤ y → ∃ e ∈ l, e.rep.toNat = q ∧ 0 ≤ e.rep ∧ e.num = x := by
  intro q hq y x hy h1 h2
  obtain ⟨y', g1, g2, g3⟩ := clkE_at hc (A := l) (fun _ h => h) hq
  rw [hy] at g1;cases g1
  obtain ⟨a, ha, b1, b2⟩ := (g3 x h1).1 h2
  have hf := (hc.2.2.1 a ha).1
  have hfr := formed_rep hf
  rcases Int.lt_or_eq_of_le b2 with hlt|heq
  ·obtain ⟨_, _, ⟨z, f3, f4⟩, _⟩ := hf
   obtain ⟨d, hd, d1, d2, _⟩ := hc.2.2.2 a ha a.rep.toNat z f3 x h1 (by omega)
   exact ⟨d, hd, by omega, by omega, d2⟩
  ·exact ⟨a, ha, b1, hfr.1, heq.symm⟩
 have q1 : Q (part1 l c) := by
  intro i x hx h1
  have hi : i < n0 l := by have := (List.getElem?_eq_some_iff.1 hx).1;rw [hp1.2] at this;exact this
  unfold part1 at hx
  rw [hl] at hx
  obtain ⟨a, b, h2, h3, h4⟩ := (zipC_at (by rw [hl, clkE_len])).1 hx
  exact key i hi b x h3 h1 (by omega)
 have step : ∀ (xs : List EvS), (∀ x ∈ xs, x ∈ l) → ∀ k, Q k → k.length = n0 l → Q (xs.foldl (fun k x => joinC k x.past) k) := by
  intro xs
  induction xs with
  | nil => exact fun _ k hk _ => hk
  | cons e xs ih =>
   intro hxs k hk hkl
   have he := hxs e (by simp)
   have hel := (hc.2.2.1 e he).2
   rw [List.foldl_cons]
   refine ih (fun x hx => hxs x (by simp [hx])) _ (fun i x hx h1 => ?_) ?_
   ·obtain ⟨a, b, h2, h3, h4⟩ := (zipC_at (by rw [hkl, hel])).1 hx
    by_cases hab : b ≤ a
    ·exact hk i x (by rw [h2];congr 1;omega) h1
    ·obtain ⟨d, hd, d1, d2, _⟩ := hc.2.2.2 e he i b h3 x h1 (by omega)
     exact ⟨d, hd, by omega, by omega, d2⟩
   ·rw [joinC_len (by rw [hkl, hel]), hkl]
 exact step (cutL l (part1 l c)) (fun x hx => (mem_cut.1 hx).1) _ q1 hp1.2
/-! ### Compaction -/
structure StoS where
 base : NowS
 evs : List EvS
 now : NowS
noncomputable def inL (c : List Int) (l : List EvS) : List EvS := l.filter fun e => decide (HasC c e.rep e.num)
noncomputable def outL (c : List Int) (l : List EvS) : List EvS := l.filter fun e => decide (¬ HasC c e.rep e.num)
noncomputable def mrg1 (m : ModS) (k : List MgS) (e : EvS) : List MgS := (applyF m k e).2
noncomputable def cmp1 (m : ModS) (b : NowS) (e : EvS) : NowS := ⟨b.clock, max b.time e.time, addE m b.state e, mrg1 m b.merged e, plE b.places e⟩
noncomputable def cmpB (m : ModS) (b : NowS) (c : List Int) (l : List EvS) : NowS := { (inL c l).foldl (cmp1 m) b with clock := c }
noncomputable def compactF (m : ModS) (s : StoS) (c : List Int) : Int × StoS :=
 @ite _ (¬ (ValC c ∧ c.length = s.now.clock.length)) (Classical.propDecidable _) (1, s)
  (@ite _ (¬ (Ins s.base.clock c ∧ Ins c s.now.clock ∧ ∀ e ∈ s.evs, HasC c e.rep e.num → Ins e.past c)) (Classical.propDecidable _) (9, s)
   (0, ⟨cmpB m s.base c s.evs, outL c s.evs, { s.now with merged := (outL c s.evs).foldl (mrg1 m) (cmpB m s.base c s.evs).merged }⟩))
theorem cmp1_fold {m : ModS} (A : List EvS) : ∀ b : NowS, A.foldl (cmp1 m) b = ⟨b.clock, A.foldl (fun t e => max t e.time) b.time, A.foldl (addE m) b.state, A.foldl (mrg1 m) b.merged, A.foldl plE b.places⟩ := by
 induction A with
 | nil => exact fun _ => rfl
 | cons e A ih => intro b;rw [List.foldl_cons, ih];rfl
theorem mrg_fold {m : ModS} {l : List EvS} (hs : SuitE m l) {X : List EvS} (hX : ExtO l X) (hXl : X.length ≤ 100) : KnL m X (X.foldl (mrg1 m) (List.replicate (mrgF m).length mg0)) := by
 obtain ⟨hm, hfw, hc, hf, hv⟩ := hs
 have key : ∀ i, i ≤ X.length → KnL m (X.take i) ((X.take i).foldl (mrg1 m) (List.replicate (mrgF m).length mg0)) := by
  intro i
  induction i with
  | zero => intro _;exact KnL.nil m
  | succ i ih =>
   intro hi
   obtain ⟨e, he⟩ := get_of (l := X) (i := i) (by omega)
   have h1 := ih (by omega)
   have hA := hX.cau i
   have hel := hX.sub e (List.mem_of_getElem? he)
   have hnx := nxt_cau hc hA hel (hX.nxt i e he).1
   have hval := h1.valL hm.lay hf (uniqP_sub (uniqP_of hc.2.1) hA.sub) (fun x hx => (hc.2.2.1 x (hA.sub x hx)).1) (by rw [List.length_take];omega)
   have hev : EvV m (e.past.length : Nat) e := by rw [(hc.2.2.1 e hel).2];exact hv e hel
   obtain ⟨k', a1, a2, -⟩ := apply_step hm.lay hval (by rw [List.length_take];omega) h1 hev hnx
   rw [List.take_add_one, he, Option.toList_some, List.foldl_append, List.foldl_cons, List.foldl_nil, mrg1, a1]
   exact a2
 have := key X.length (Nat.le_refl _)
 rwa [List.take_length] at this
end Go.Proofs.YtajenkpjcbaadaaGreat
