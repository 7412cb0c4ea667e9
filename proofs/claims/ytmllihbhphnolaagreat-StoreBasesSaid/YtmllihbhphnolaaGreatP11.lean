/- Part 11 of the ground of this proof: what its texts say of the model, the program and the plain data; conditions: those that are named. -/
import Derived.Test.YtmllihbhphnolaaGreatP10
namespace Go.Proofs.YtmllihbhphnolaaGreat
open Go Go.CF
set_option maxRecDepth 20000
theorem si_keep {l s : List Int} {x : Int} (h : SI l s) (hx : x ∈ s) : SI (l ++ [x]) s :=
 ⟨h.1, fun y => by
  rw [List.mem_append, List.mem_singleton, h.2]
  exact ⟨.inl, fun e => e.elim id fun e => e ▸ (h.2 x).1 hx⟩⟩
theorem si_ins {l s : List Int} {x : Int} {i : Nat} (h : SI l s) (h1 : ∀ y ∈ s.take i, y < x) (h2 : ∀ y ∈ s.drop i, x < y) : SI (l ++ [x]) (s.take i ++ x :: s.drop i) := by
 have hp := h.1
 rw [← List.take_append_drop i s] at hp
 obtain ⟨p1, p2, p3⟩ := List.pairwise_append.1 hp
 refine ⟨List.pairwise_append.2 ⟨p1, List.pairwise_cons.2 ⟨h2, p2⟩, fun a ha b hb => ?_⟩, fun y => ?_⟩
 ·rcases List.mem_cons.1 hb with rfl|hb
  ·exact h1 a ha
  ·exact p3 a ha b hb
 ·have : y ∈ s ↔ y ∈ s.take i ∨ y ∈ s.drop i := by rw [← List.mem_append, List.take_append_drop]
  rw [List.mem_append, List.mem_cons, List.mem_append, List.mem_singleton, ← h.2, this]
  constructor
  ·rintro (h|h|h)
   ·exact .inl (.inl h)
   ·exact .inr h
   ·exact .inl (.inr h)
  ·rintro ((h|h)|h)
   ·exact .inl h
   ·exact .inr (.inr h)
   ·exact .inr (.inl h)
set_option maxHeartbeats 2000000 in
theorem sorted_p (l : List Int) (hl : l.length ≤ 100000) : CallP Tryz.prog 182 [ints l] (ints (srtD l)) := by
 have hln := srtD_len l
 refine CallA.fz (T := 3) (by omega) ?_
 refine CallA.of pg ord182 Tryz.func182 rfl Tryz.ntmps182 Tryz.results182 rfl fun h0 G0 O0 => ?_
 repeat' (first|refine Sp.h ?_|refine Lk.r rfl ?_|refine Rf.mk rfl ?_|(refine All.mk ?_;intro _)|(apply Fk.r;(focus (repeat (first|exact FillA.nil|(apply FillA.agg;(focus rfl);(focus rfl);(focus (repeat (first|exact SetAs.z|(apply SetAs.c;(focus (repeat first|assumption|constructor)))))))|(apply FillA.one;(focus rfl);(focus infer_instance);(focus (repeat first|assumption|constructor)))))))|refine Rf.mk ⟨rfl, rfl, rfl⟩ ?_|fail)
 rename_i v
 apply CA.retype (m := ([] : List Int)) (g := i1)
 focus (repeat constructor)
 focus rfl
 refine CA.loop (fun x : Nat × Value × List Int => ⟨[(0, ints l), (3, .ow x.2.1), (4, it x.1)], [arrR x.2.1 3 1 x.2.2 i1]⟩) (fun x => x.1 ≤ l.length ∧ x.2.2.length ≤ x.1 ∧ SI (l.take x.1) x.2.2) (fun x => l.length - x.1) (0, v, []) ⟨by repeat first|trivial|refine ⟨rfl,?_⟩,by repeat first|exact .nil|refine .cons (by repeat constructor) ?_⟩ ⟨Nat.zero_le _, by simp, List.Pairwise.nil, by simp⟩ ?_
 rintro ⟨i, w, s⟩ ⟨hi, hsl, hs⟩
 simp only at hi hsl hs
 simp only
 by_cases hin : i < l.length
 ·obtain ⟨x, hx⟩ := get_of hin
  have hsu : l.take (i + 1) = l.take i ++ [x] := by rw [List.take_add_one, hx];rfl
  repeat' (first|refine Sp.h ?_|refine Lk.r rfl ?_|refine Rf.mk rfl ?_|(apply Bd.t;(focus first|assumption|omega|rfl))|(refine Im.mk ?_;intro _)|fail)
  refine CA.loop (fun j : Nat => ⟨[(0, ints l), (3, .ow w), (4, it i), (5, it j)], [arrR w 3 1 s i1]⟩) (fun j => j ≤ s.length ∧ ∀ y ∈ s.take j, y < x) (fun j => s.length - j) 0 ⟨by repeat first|trivial|refine ⟨rfl,?_⟩,by repeat first|exact .nil|refine .cons (by repeat constructor) ?_⟩ ⟨Nat.zero_le _, by simp⟩ ?_
  rintro j ⟨hj, hlt⟩
  by_cases hjn : j < s.length
  ·obtain ⟨y, hy⟩ := get_of hjn
   by_cases hyx : y < x
   ·repeat' (first|refine Sp.h ?_|refine Lk.r rfl ?_|refine Rf.mk rfl ?_|(apply Bd.t;(focus first|assumption|omega|rfl))|refine OpK.r rfl ?_|(apply TkA.r;(focus repeat constructor))|(apply Ix.q;(focus exact rfl);(focus assumption))|(apply At.r;(focus assumption))|(apply CA.draw;(focus rfl);(focus kernel_rfl);(focus kernel_rfl);(focus repeat' constructor);(focus rfl))|(apply Ov.n;(focus first|omega|(simp <;> omega)))|fail)
    exact PA.lp (j + 1) ⟨by repeat first|trivial|refine ⟨rfl,?_⟩,by repeat first|exact .nil|refine .cons (by repeat constructor) ?_⟩ ⟨⟨hjn, all_succ hy hlt hyx⟩, by omega⟩
   ·by_cases hye : y = x
    ·subst hye
     repeat' (first|refine Sp.h ?_|refine Lk.r rfl ?_|refine Rf.mk rfl ?_|(apply Bd.t;(focus first|assumption|omega|rfl))|(apply Bd.f;(focus first|assumption|omega|exact Bool.false_ne_true))|refine OpK.r rfl ?_|(apply TkA.r;(focus repeat constructor))|(apply Ix.q;(focus exact rfl);(focus assumption))|(apply At.r;(focus assumption))|(apply CA.draw;(focus rfl);(focus kernel_rfl);(focus kernel_rfl);(focus repeat' constructor);(focus rfl))|(apply Ov.n;(focus first|omega|(simp <;> omega)))|fail)
     all_goals exact PA.lp (i + 1, w, s) ⟨by repeat first|trivial|refine ⟨rfl,?_⟩,by repeat first|exact .nil|refine .cons (by repeat constructor) ?_⟩ ⟨⟨hin, by simp only;omega, by simp only;rw [hsu];exact si_keep hs (List.mem_of_getElem? hy)⟩, by simp only;omega⟩
    ·have hgt : ∀ z ∈ s.drop j, x < z := fun z hz => by
      obtain ⟨q, hq⟩ := List.getElem?_of_mem hz
      rw [List.getElem?_drop] at hq
      by_cases hq0 : q = 0
      ·subst hq0;rw [Nat.add_zero, hy] at hq;cases hq;omega
      ·obtain ⟨p1, e1⟩ := List.getElem?_eq_some_iff.1 hq
       obtain ⟨p2, e2⟩ := List.getElem?_eq_some_iff.1 hy
       have := List.pairwise_iff_getElem.1 hs.1 j (j + q) p2 p1 (by omega)
       omega
     have hsi := si_ins hs hlt hgt
     have he : s.take (j - 0) ++ [x] ++ ([] ++ (s.drop j).take (s.length - j)) = s.take j ++ x :: s.drop j := by
      rw [List.take_of_length_le (l := s.drop j) (by simp)];simp
     repeat' (first|refine Sp.h ?_|refine Lk.r rfl ?_|refine Rf.mk rfl ?_|(apply Bd.t;(focus first|assumption|omega|rfl))|(apply Bd.f;(focus first|assumption|omega|exact Bool.false_ne_true))|refine OpK.r rfl ?_|(apply Om.mk;(focus first|omega|(simp <;> omega)))|(refine All.mk ?_;intro _)|(apply TkA.r;(focus repeat constructor))|(apply Ix.q;(focus exact rfl);(focus assumption))|(apply At.r;(focus assumption))|refine Ce.l rfl ?_|refine Ce.r ?_|(apply Fk.r;(focus (repeat (first|exact FillA.nil|(apply FillA.agg;(focus rfl);(focus rfl);(focus (repeat (first|exact SetAs.z|(apply SetAs.c;(focus (repeat first|assumption|constructor)))))))|(apply FillA.one;(focus rfl);(focus infer_instance);(focus (repeat first|assumption|constructor)))))))|refine Rf.mk ⟨rfl, rfl⟩ ?_|refine Rf.mk ⟨rfl, rfl, rfl⟩ ?_|(apply Jx.r;(focus exact rfl);(focus first|omega|(simp;done)|(simp;omega)))|refine Mp.same ?_|(apply Mp.lit;(focus repeat (first|exact MpL.nil|(apply MpL.cons;(focus rfl))|(apply MpL.inv;(focus repeat constructor);(focus infer_instance)))))|(apply CA.draw;(focus rfl);(focus kernel_rfl);(focus kernel_rfl);(focus repeat' constructor);(focus rfl))|(apply Ov.n;(focus first|omega|(simp <;> omega)))|fail)
     all_goals rw [he]
     all_goals exact PA.lp (i + 1, _, s.take j ++ x :: s.drop j) ⟨by repeat first|trivial|refine ⟨rfl,?_⟩,by repeat first|exact .nil|refine .cons (by repeat constructor) ?_⟩ ⟨⟨hin, by simp only [List.length_append, List.length_cons, List.length_take, List.length_drop];omega, by simp only;rw [hsu];exact hsi⟩, by simp only;omega⟩
  ·have hje : j = s.length := by omega
   subst hje
   rw [List.take_length] at hlt
   have hsi := si_ins (i := s.length) hs (by rw [List.take_length];exact hlt) (by rw [List.drop_length];simp)
   rw [List.take_length, List.drop_length] at hsi
   have he : s.take (s.length - 0) ++ [x] ++ ([] ++ (s.drop s.length).take (s.length - s.length)) = s ++ [x] := by simp
   repeat' (first|refine Sp.h ?_|refine Lk.r rfl ?_|refine Rf.mk rfl ?_|(apply Bd.f;(focus first|assumption|omega|exact Bool.false_ne_true))|refine OpK.r rfl ?_|(apply Om.mk;(focus first|omega|(simp <;> omega)))|(refine All.mk ?_;intro _)|(apply TkA.r;(focus repeat constructor))|(apply Ix.q;(focus exact rfl);(focus assumption))|refine Ce.l rfl ?_|refine Ce.r ?_|(apply Fk.r;(focus (repeat (first|exact FillA.nil|(apply FillA.agg;(focus rfl);(focus rfl);(focus (repeat (first|exact SetAs.z|(apply SetAs.c;(focus (repeat first|assumption|constructor)))))))|(apply FillA.one;(focus rfl);(focus infer_instance);(focus (repeat first|assumption|constructor)))))))|refine Rf.mk ⟨rfl, rfl⟩ ?_|refine Rf.mk ⟨rfl, rfl, rfl⟩ ?_|(apply Jx.r;(focus exact rfl);(focus first|omega|(simp;done)|(simp;omega)))|refine Mp.same ?_|(apply Mp.lit;(focus repeat (first|exact MpL.nil|(apply MpL.cons;(focus rfl))|(apply MpL.inv;(focus repeat constructor);(focus infer_instance)))))|(apply CA.draw;(focus rfl);(focus kernel_rfl);(focus kernel_rfl);(focus repeat' constructor);(focus rfl))|(apply Ov.n;(focus first|omega|(simp <;> omega)))|fail)
   all_goals rw [he]
   all_goals exact PA.lp (i + 1, _, s ++ [x]) ⟨by repeat first|trivial|refine ⟨rfl,?_⟩,by repeat first|exact .nil|refine .cons (by repeat constructor) ?_⟩ ⟨⟨hin, by simp only [List.length_append, List.length_cons, List.length_nil];omega, by simp only;rw [hsu];exact hsi⟩, by simp only;omega⟩
 ·have hie : i = l.length := by omega
  subst hie
  rw [List.take_length] at hs
  have he : s = srtD l := hs.uniq (srtD_si l)
  subst he
  repeat' (first|refine Sp.h ?_|refine Lk.r rfl ?_|refine Rf.mk rfl ?_|(apply Bd.f;(focus first|assumption|omega|exact Bool.false_ne_true))|(refine Im.mk ?_;intro _)|(apply Nm.r;focus repeat constructor)|fail)
  exact ⟨_, _, .one (.same (.nil (by (repeat first|exact .nil|refine .cons (by repeat constructor) ?_)))), _, rfl, rfl⟩
end Go.Proofs.YtmllihbhphnolaaGreat
namespace Go.Proofs.YtmllihbhphnolaaGreat
open Go Go.CF
set_option maxRecDepth 20000
noncomputable def valsF (ts : List TblS) (l : List MgS) : List (List Int) := (ts.zip l).map fun p => valK p.1 p.2
theorem valsF_succ {ts : List TblS} {l : List MgS} {i : Nat} {t : TblS} {g : MgS} (ht : ts[i]? = some t) (hg : l[i]? = some g) : valsF (ts.take (i + 1)) (l.take (i + 1)) = valsF (ts.take i) (l.take i) ++ [valK t g] := by
 have h1 := (List.getElem?_eq_some_iff.1 ht).1
 have h2 := (List.getElem?_eq_some_iff.1 hg).1
 rw [List.take_add_one, List.take_add_one, ht, hg, valsF, Option.toList_some, Option.toList_some, List.zip_append (by simp;omega), List.map_append]
 rfl
theorem valsF_len (ts : List TblS) (l : List MgS) : (valsF ts l).length = min ts.length l.length := by simp [valsF]
theorem valL_len {ts : List TblS} {l : List MgS} (hv : ValL ts l) {i : Nat} {t : TblS} {g : MgS} (ht : ts[i]? = some t) (hg : l[i]? = some g) : g.marks.length ≤ 1024 := (hv.2 i t g ht hg).1.2.2.2
theorem valuesM_p (m : ModS) (l : List MgS) (hm : LayOK m.sorts m.tables) (hv : ValL (mrgF m) l) (hl : (mrgF m).length ≤ 1000) :
  CallP Tryz.prog 130 [mdl m, mgs l] (.tup [clks (valsF (mrgF m) l), it 0]) := by
 refine CallA.fzt (T := 22) (by rw [valsF_len];omega) ?_
 have hva := validM_p m l hm
 have hce := cells_p m hm
 have hlen := hv.1
 refine CallA.of pg ord130 Tryz.func130 rfl Tryz.ntmps130 Tryz.results130 rfl fun h0 G0 O0 => ?_
 repeat' (first|refine Sp.h ?_|refine Lk.r rfl ?_|refine Rf.mk rfl ?_|(apply Bd.t;(focus first|assumption|omega|rfl))|(refine Im.mk ?_;intro _)|(refine All.mk ?_;intro _)|(apply TkB.r;(focus repeat constructor))|refine Ch.l ⟨rfl, rfl⟩ ?_|(apply Cl.p (hva);(focus repeat' (first|exact Lend.nil|apply Lend.keep|fail)))|(apply Cl.p (hce);(focus repeat' (first|exact Lend.nil|apply Lend.keep|fail))))
 refine CA.nilOwn 6 22 1 clkC rfl fun v => ?_
 refine CA.loop (fun x : Nat × Value => ⟨[(1, mgs l), (6, .ow x.2), (14, tbls (mrgF m)), (15, it ((mrgF m).length : Nat)), (16, it x.1)], [arrR x.2 22 1 (valsF ((mrgF m).take x.1) (l.take x.1)) clkC]⟩) (fun x => x.1 ≤ (mrgF m).length) (fun x => (mrgF m).length - x.1) (0, v) ⟨by repeat first|trivial|refine ⟨rfl,?_⟩,by repeat first|exact .nil|refine .cons (by repeat constructor) ?_⟩ (Nat.zero_le _) ?_
 rintro ⟨i, w⟩ hi
 simp only at hi
 simp only
 by_cases hin : i < (mrgF m).length
 ·obtain ⟨t, ht⟩ := get_of hin
  obtain ⟨g, hg⟩ := get_of (l := l) (i := i) (by omega)
  have hsu := valsF_succ ht hg
  have hva := values_p t g (by have := valL_len hv ht hg;omega)
  have hln : (valsF ((mrgF m).take i) (l.take i)).length ≤ 1000 := by rw [valsF_len];simp;omega
  repeat' (first|refine Sp.h ?_|refine Lk.r rfl ?_|refine Rf.mk rfl ?_|(apply Bd.t;(focus first|assumption|omega|rfl))|refine OpK.r rfl ?_|(apply Om.mk;(focus first|omega|(simp <;> omega)))|(refine All.mk ?_;intro _)|(apply TkA.r;(focus repeat constructor))|(apply TkB.r;(focus repeat constructor))|(apply Ix.q;(focus exact rfl);(focus assumption))|refine Ce.r ?_|refine Ch.l ⟨rfl, rfl⟩ ?_|(apply SetAsk.r;(focus (repeat (first|exact SetAs.z|(apply SetAs.c;(focus (repeat first|assumption|constructor)))))))|(apply Fk.r;(focus (repeat (first|exact FillA.nil|(apply FillA.agg;(focus rfl);(focus rfl);(focus (repeat (first|exact SetAs.z|(apply SetAs.c;(focus (repeat first|assumption|constructor)))))))|(apply FillA.one;(focus rfl);(focus infer_instance);(focus (repeat first|assumption|constructor)))))))|(apply Nm.r;focus repeat constructor)|refine Rf.mk ⟨rfl, rfl⟩ ?_|refine Rf.mk ⟨rfl, rfl, rfl⟩ ?_|(apply Mp.lit;(focus repeat (first|exact MpL.nil|(apply MpL.cons;(focus rfl))|(apply MpL.inv;(focus repeat constructor);(focus infer_instance)))))|(apply CA.draw;(focus rfl);(focus kernel_rfl);(focus kernel_rfl);(focus repeat' constructor);(focus rfl))|(apply Ov.n;(focus first|omega|(simp <;> omega)))|(apply Cl.p (hva);(focus repeat' (first|exact Lend.nil|apply Lend.keep|fail))))
  rw [← hsu]
  exact PA.lp (i + 1, _) ⟨by repeat first|trivial|refine ⟨rfl,?_⟩,by repeat first|exact .nil|refine .cons (by repeat constructor) ?_⟩ ⟨hin, by simp only;omega⟩
 ·have hie : i = (mrgF m).length := by omega
  subst hie
  rw [List.take_length, List.take_of_length_le (l := l) (by omega)]
  repeat' (first|refine Sp.h ?_|refine Lk.r rfl ?_|refine Rf.mk rfl ?_|(apply Bd.f;(focus first|assumption|omega|exact Bool.false_ne_true))|(apply Nm.r;focus repeat constructor)|fail)
  exact ⟨_, _, .tup (.same (.same (.nil (by (repeat first|exact .nil|refine .cons (by repeat constructor) ?_))))), _, rfl, rfl⟩
theorem initial_p (lo hi : Int) : CallP Tryz.prog 184 [.agg [it lo, it hi]] (it (min (max 0 lo) hi)) := by
 refine CallA.of pg ord184 Tryz.func184 rfl Tryz.ntmps184 Tryz.results184 rfl fun h0 G0 O0 => ?_
 repeat' (first|refine Sp.h ?_|refine Lk.r rfl ?_|refine Rf.mk rfl ?_|(refine All.mk ?_;intro _)|(apply TkB.r;(focus repeat constructor))|(apply Nm.r;focus repeat constructor)|fail)
 exact Fin.p rfl rfl
def inB (t : TblS) (g : MgS) : Prop := (t.kind = 2 ∨ t.kind = 3) ∧ setB t g = true
set_option maxHeartbeats 4000000 in
theorem values34_p (m : ModS) (l : List MgS) (hm : LayOK m.sorts m.tables) (hv : ValL (mrgF m) l) (hl : (mrgF m).length ≤ 1000) :
  CallP Tryz.prog 128 [mdl m, mgs l] (.tup [clks (valsF (mrgF m) l), it 0]) := by
 refine CallA.fzt (T := 22) (by rw [valsF_len];omega) ?_
 have hva := validR34_p m l hm
 have hce := merged32_p m hm
 have hlen := hv.1
 refine CallA.of pg ord128 Tryz.func128 rfl Tryz.ntmps128 Tryz.results128 rfl fun h0 G0 O0 => ?_
 repeat' (first|refine Sp.h ?_|refine Lk.r rfl ?_|refine Rf.mk rfl ?_|(apply Bd.t;(focus first|assumption|omega|rfl))|(refine All.mk ?_;intro _)|(apply TkB.r;(focus repeat constructor))|refine Ch.l ⟨rfl, rfl⟩ ?_|(apply Fk.r;(focus (repeat (first|exact FillA.nil|(apply FillA.agg;(focus rfl);(focus rfl);(focus (repeat (first|exact SetAs.z|(apply SetAs.c;(focus (repeat first|assumption|constructor)))))))|(apply FillA.one;(focus rfl);(focus infer_instance);(focus (repeat first|assumption|constructor)))))))|refine Rf.mk ⟨rfl, rfl, rfl⟩ ?_|(apply Cl.p (hva);(focus repeat' (first|exact Lend.nil|apply Lend.keep|fail)))|(apply Cl.p (hce);(focus repeat' (first|exact Lend.nil|apply Lend.keep|fail))))
 rename_i v
 apply CA.retype (m := ([] : List (List Int))) (g := clkC)
 focus (repeat constructor)
 focus rfl
 refine CA.loop (fun x : Nat × Value => ⟨[(1, mgs l), (6, tbls (mrgF m)), (7, .ow x.2), (8, it x.1)], [arrR x.2 22 1 (valsF ((mrgF m).take x.1) (l.take x.1)) clkC]⟩) (fun x => x.1 ≤ (mrgF m).length) (fun x => (mrgF m).length - x.1) (0, v) ⟨by repeat first|trivial|refine ⟨rfl,?_⟩,by repeat first|exact .nil|refine .cons (by repeat constructor) ?_⟩ (Nat.zero_le _) ?_
 rintro ⟨i, w⟩ hi
 simp only at hi
 simp only
 by_cases hin : i < (mrgF m).length
 ·obtain ⟨t, ht⟩ := get_of hin
  obtain ⟨g, hg⟩ := get_of (l := l) (i := i) (by omega)
  have hsu := valsF_succ ht hg
  have hml := valL_len hv ht hg
  have hln : (valsF ((mrgF m).take i) (l.take i)).length ≤ 1000 := by rw [valsF_len];simp;omega
  (repeat' (first|(show CA _ _ (Code.region 9 _ _) _ _;apply Stopped.out)|refine Sp.h ?_|refine Lk.r rfl ?_|refine Rf.mk rfl ?_|(apply Bd.t;(focus first|assumption|omega|rfl))|(refine Im.mk ?_;intro _)|(refine All.mk ?_;intro _)|(apply TkB.r;(focus repeat constructor))|(apply Ix.q;(focus exact rfl);(focus assumption))|refine Ch.l ⟨rfl, rfl⟩ ?_|(apply SetAsk.r;(focus (repeat (first|exact SetAs.z|(apply SetAs.c;(focus (repeat first|assumption|constructor)))))))|(apply Nm.r;focus repeat constructor)|fail));any_goals apply Stopped.mk
  rename_i b9
  refine CA.cut (fun b : Bool => ⟨[(1, mgs l), (6, tbls (mrgF m)), (7, .ow w), (8, it i), (9, pm b9), (10, bl b)], [arrR w 22 1 (valsF ((mrgF m).take i) (l.take i)) clkC, blkR b9 123 (mgC g)]⟩) (fun b => b = true ↔ inB t g) ?_ ?_
  ·obtain ⟨put, drop, k⟩ := g
   by_cases k2 : t.kind = 2
   ·have hin : ∀ b : Bool, (b = true ↔ setB t ⟨put, drop, k⟩ = true) → (b = true ↔ inB t ⟨put, drop, k⟩) := fun b h => h.trans ⟨fun h => ⟨.inl k2, h⟩, fun h => h.2⟩
    cases put
    all_goals repeat' (first|refine Sp.h ?_|refine Lk.r rfl ?_|refine Rf.mk rfl ?_|(apply Bd.t;(focus first|assumption|omega|rfl))|(apply Bd.f;(focus first|assumption|omega|exact Bool.false_ne_true))|(refine Bd.mk ?_ ?_ <;> intro _)|(refine Im.mk ?_;intro _)|(apply TkB.r;(focus repeat constructor))|(apply Ix.q;(focus exact rfl);(focus assumption))|fail)
    all_goals exact PA.lp _ ⟨by repeat first|trivial|refine ⟨rfl,?_⟩,by repeat first|exact .nil|refine .cons (by repeat constructor) ?_⟩ (hin _ (by simp [setB, k2] at *;try omega))
   by_cases k3 : t.kind = 3
   ·have hin : ∀ b : Bool, (b = true ↔ setB t ⟨put, drop, k⟩ = true) → (b = true ↔ inB t ⟨put, drop, k⟩) := fun b h => h.trans ⟨fun h => ⟨.inr k3, h⟩, fun h => h.2⟩
    cases put <;> cases drop
    all_goals repeat' (first|refine Sp.h ?_|refine Lk.r rfl ?_|refine Rf.mk rfl ?_|(apply Bd.t;(focus first|assumption|omega|rfl))|(apply Bd.f;(focus first|assumption|omega|exact Bool.false_ne_true))|(refine Im.mk ?_;intro _)|(apply TkB.r;(focus repeat constructor))|(apply Ix.q;(focus exact rfl);(focus assumption))|fail)
    all_goals exact PA.lp _ ⟨by repeat first|trivial|refine ⟨rfl,?_⟩,by repeat first|exact .nil|refine .cons (by repeat constructor) ?_⟩ (hin _ (by simp [setB, k3] at *;try omega))
   ·repeat' (first|refine Sp.h ?_|refine Lk.r rfl ?_|refine Rf.mk rfl ?_|(apply Bd.f;(focus first|assumption|omega|exact Bool.false_ne_true))|(apply Ix.q;(focus exact rfl);(focus assumption))|fail)
    all_goals exact PA.lp _ ⟨by repeat first|trivial|refine ⟨rfl,?_⟩,by repeat first|exact .nil|refine .cons (by repeat constructor) ?_⟩ ⟨fun h => by simp at h, fun h => by rcases h.1 with h|h <;> contradiction⟩
  rintro b hb
  simp only
  repeat' (first|refine Sp.h ?_|refine Lk.r rfl ?_|refine Rf.mk rfl ?_|(refine All.mk ?_;intro _)|(apply Fk.r;(focus (repeat (first|exact FillA.nil|(apply FillA.agg;(focus rfl);(focus rfl);(focus (repeat (first|exact SetAs.z|(apply SetAs.c;(focus (repeat first|assumption|constructor)))))))|(apply FillA.one;(focus rfl);(focus infer_instance);(focus (repeat first|assumption|constructor)))))))|refine Rf.mk ⟨rfl, rfl, rfl⟩ ?_|fail)
  rename_i v11
  apply CA.retype (m := ([] : List Int)) (g := i1)
  focus (repeat constructor)
  focus rfl
  refine CA.loop (fun x : Nat × Value => ⟨[(1, mgs l), (6, tbls (mrgF m)), (7, .ow w), (8, it i), (9, pm b9), (10, bl b), (11, .ow x.2), (12, it x.1)], [arrR w 22 1 (valsF ((mrgF m).take i) (l.take i)) clkC, blkR b9 123 (mgC g), arrR x.2 3 1 ((g.marks.take x.1).map MkS.val) i1]⟩) (fun x => x.1 ≤ g.marks.length) (fun x => g.marks.length - x.1) (0, v11) ⟨by repeat first|trivial|refine ⟨rfl,?_⟩,by repeat first|exact .nil|refine .cons (by repeat constructor) ?_⟩ (Nat.zero_le _) ?_
  rintro ⟨j, u⟩ hj
  simp only at hj
  simp only
  by_cases hjn : j < g.marks.length
  ·obtain ⟨x, hx⟩ := get_of hjn
   have hs2 : (g.marks.take (j + 1)).map MkS.val = (g.marks.take j).map MkS.val ++ [x.val] := by rw [List.take_add_one, hx];simp
   repeat' (first|refine Sp.h ?_|refine Lk.r rfl ?_|refine Rf.mk rfl ?_|(apply Bd.t;(focus first|assumption|omega|rfl))|(apply Om.mk;(focus first|omega|(simp <;> omega)))|(refine Im.mk ?_;intro _)|(refine All.mk ?_;intro _)|(apply TkA.r;(focus repeat constructor))|(apply TkB.r;(focus repeat constructor))|(apply Ix.q;(focus exact rfl);(focus assumption))|refine Ce.r ?_|(apply Fk.r;(focus (repeat (first|exact FillA.nil|(apply FillA.agg;(focus rfl);(focus rfl);(focus (repeat (first|exact SetAs.z|(apply SetAs.c;(focus (repeat first|assumption|constructor)))))))|(apply FillA.one;(focus rfl);(focus infer_instance);(focus (repeat first|assumption|constructor)))))))|refine Rf.mk ⟨rfl, rfl⟩ ?_|refine Rf.mk ⟨rfl, rfl, rfl⟩ ?_|(apply Mp.lit;(focus repeat (first|exact MpL.nil|(apply MpL.cons;(focus rfl))|(apply MpL.inv;(focus repeat constructor);(focus infer_instance)))))|(apply Ov.n;(focus first|omega|(simp <;> omega)))|fail)
   rw [← hs2]
   exact PA.lp (j + 1, _) ⟨by repeat first|trivial|refine ⟨rfl,?_⟩,by repeat first|exact .nil|refine .cons (by repeat constructor) ?_⟩ ⟨hjn, by simp only;omega⟩
  have hje : j = g.marks.length := by omega
  subst hje
  rw [List.take_length]
  have hso := sorted_p (g.marks.map MkS.val) (by simp;omega)
  cases b
  ·have hb : ¬ inB t g := fun h => by have := hb.2 h;cases this
   by_cases hs : isSetK t.kind
   ·have hv : valK t g = [0] := by
     have hs' : t.kind = 2 ∨ t.kind = 3 := hs
     rw [valK, if_pos hs', setV, if_neg (fun h => hb ⟨hs', h⟩)]
    (repeat' (first|(show CA _ _ (Code.region 19 _ _) _ _;apply Stopped.out)|refine Sp.h ?_|refine Lk.r rfl ?_|refine Rf.mk rfl ?_|(apply Bd.t;(focus first|assumption|omega|rfl))|(apply Bd.f;(focus first|assumption|omega|exact Bool.false_ne_true))|(refine Im.mk ?_;intro _)|(apply TkB.r;(focus repeat constructor))|(apply Ix.q;(focus exact rfl);(focus assumption))|(apply Cl.p (isSet34_p _);(focus repeat' (first|exact Lend.nil|apply Lend.keep|fail)))));any_goals apply Stopped.mk
    (repeat' (first|(show OA _ _ _ (List.cons ⟨_, Op.buildSlice 72 _ _, _, _, _, _⟩ _) _ _;apply Stopped.out)|refine Sp.h ?_|refine Lk.r rfl ?_|refine Rf.mk rfl ?_|(refine All.mk ?_;intro _)|(apply Fk.r;(focus (repeat (first|exact FillA.nil|(apply FillA.agg;(focus rfl);(focus rfl);(focus (repeat (first|exact SetAs.z|(apply SetAs.c;(focus (repeat first|assumption|constructor)))))))|(apply FillA.one;(focus rfl);(focus infer_instance);(focus (repeat first|assumption|constructor)))))))|refine Rf.mk ⟨rfl, rfl, rfl⟩ ?_|fail));any_goals apply Stopped.mk
    apply OA.retype (m := ([0] : List Int)) (g := i1)
    focus exact Take.here
    focus rfl
    apply OA.freeze 105
    focus rfl
    focus (repeat constructor)
    focus exact Nat.le_of_ble_eq_true rfl
    repeat' (first|refine Sp.h ?_|refine Lk.r rfl ?_|refine Rf.mk rfl ?_|(apply Om.mk;(focus first|omega|(simp <;> omega)))|(refine All.mk ?_;intro _)|(apply TkA.r;(focus repeat constructor))|refine Ce.r ?_|(apply Fk.r;(focus (repeat (first|exact FillA.nil|(apply FillA.agg;(focus rfl);(focus rfl);(focus (repeat (first|exact SetAs.z|(apply SetAs.c;(focus (repeat first|assumption|constructor)))))))|(apply FillA.one;(focus rfl);(focus infer_instance);(focus (repeat first|assumption|constructor)))))))|refine Rf.mk ⟨rfl, rfl⟩ ?_|refine Rf.mk ⟨rfl, rfl, rfl⟩ ?_|(apply Mp.lit;(focus repeat (first|exact MpL.nil|(apply MpL.cons;(focus rfl))|(apply MpL.inv;(focus repeat constructor);(focus infer_instance)))))|(apply Ov.n;(focus first|omega|(simp <;> omega)))|fail)
    rw [← hv, ← hsu]
    exact PA.lp (i + 1, _) ⟨by repeat first|trivial|refine ⟨rfl,?_⟩,by repeat first|exact .nil|refine .cons (by repeat constructor) ?_⟩ ⟨hin, by simp only;omega⟩
   ·have hs' : ¬ (t.kind = 2 ∨ t.kind = 3) := hs
    by_cases h0 : g.marks.length = 0
    ·have hv : valK t g = [min (max 0 t.lo) t.hi] := by rw [valK, if_neg hs', if_pos h0];rfl
     have h0' : (g.marks.map MkS.val).length = 0 := by simpa using h0
     (repeat' (first|(show CA _ _ (Code.region 21 _ _) _ _;apply Stopped.out)|refine Sp.h ?_|refine Lk.r rfl ?_|refine Rf.mk rfl ?_|(apply Bd.t;(focus first|assumption|omega|rfl))|(apply Bd.f;(focus first|assumption|omega|exact Bool.false_ne_true))|(refine Im.mk ?_;intro _)|(apply TkA.r;(focus repeat constructor))|(apply TkB.r;(focus repeat constructor))|(apply Ix.q;(focus exact rfl);(focus assumption))|(apply Cl.p (isSet34_p _);(focus repeat' (first|exact Lend.nil|apply Lend.keep|fail)))));any_goals apply Stopped.mk
     (repeat' (first|(show OA _ _ _ (List.cons ⟨_, Op.buildSlice 72 _ _, _, _, _, _⟩ _) _ _;apply Stopped.out)|refine Sp.h ?_|refine Lk.r rfl ?_|refine Rf.mk rfl ?_|(refine All.mk ?_;intro _)|(apply Ix.q;(focus exact rfl);(focus assumption))|refine Ch.r ?_|(apply Fk.r;(focus (repeat (first|exact FillA.nil|(apply FillA.agg;(focus rfl);(focus rfl);(focus (repeat (first|exact SetAs.z|(apply SetAs.c;(focus (repeat first|assumption|constructor)))))))|(apply FillA.one;(focus rfl);(focus infer_instance);(focus (repeat first|assumption|constructor)))))))|refine Rf.mk ⟨rfl, rfl, rfl⟩ ?_|(apply Cl.p (initial_p _ _);(focus repeat' (first|exact Lend.nil|apply Lend.keep|fail)))));any_goals apply Stopped.mk
     apply OA.retype (m := ([min (max 0 t.lo) t.hi] : List Int)) (g := i1)
     focus exact Take.here
     focus rfl
     apply OA.freeze 119
     focus rfl
     focus (repeat constructor)
     focus exact Nat.le_of_ble_eq_true rfl
     repeat' (first|refine Sp.h ?_|refine Lk.r rfl ?_|refine Rf.mk rfl ?_|(apply Om.mk;(focus first|omega|(simp <;> omega)))|(refine All.mk ?_;intro _)|(apply TkA.r;(focus repeat constructor))|refine Ce.r ?_|(apply Fk.r;(focus (repeat (first|exact FillA.nil|(apply FillA.agg;(focus rfl);(focus rfl);(focus (repeat (first|exact SetAs.z|(apply SetAs.c;(focus (repeat first|assumption|constructor)))))))|(apply FillA.one;(focus rfl);(focus infer_instance);(focus (repeat first|assumption|constructor)))))))|refine Rf.mk ⟨rfl, rfl⟩ ?_|refine Rf.mk ⟨rfl, rfl, rfl⟩ ?_|(apply Mp.lit;(focus repeat (first|exact MpL.nil|(apply MpL.cons;(focus rfl))|(apply MpL.inv;(focus repeat constructor);(focus infer_instance)))))|(apply Ov.n;(focus first|omega|(simp <;> omega)))|fail)
     rw [← hv, ← hsu]
     exact PA.lp (i + 1, _) ⟨by repeat first|trivial|refine ⟨rfl,?_⟩,by repeat first|exact .nil|refine .cons (by repeat constructor) ?_⟩ ⟨hin, by simp only;omega⟩
    ·have hv : valK t g = srtD (g.marks.map MkS.val) := by rw [valK, if_neg hs', if_neg h0]
     have h0' : (g.marks.map MkS.val).length ≠ 0 := by simpa using h0
     (repeat' (first|(show CA _ _ (Code.region 15 _ _) _ _;apply Stopped.out)|refine Sp.h ?_|refine Lk.r rfl ?_|refine Rf.mk rfl ?_|(apply Bd.f;(focus first|assumption|omega|exact Bool.false_ne_true))|(refine Im.mk ?_;intro _)|(apply TkA.r;(focus repeat constructor))|(apply TkB.r;(focus repeat constructor))|(apply Ix.q;(focus exact rfl);(focus assumption))|(apply Cl.p (isSet34_p _);(focus repeat' (first|exact Lend.nil|apply Lend.keep|fail)))));any_goals apply Stopped.mk
     apply CA.freeze 11
     focus rfl
     focus (repeat constructor)
     focus (simp;omega)
     repeat' (first|refine Sp.h ?_|refine Lk.r rfl ?_|refine Rf.mk rfl ?_|(apply Om.mk;(focus first|omega|(simp <;> omega)))|(refine All.mk ?_;intro _)|(apply TkA.r;(focus repeat constructor))|refine Ce.r ?_|(apply Fk.r;(focus (repeat (first|exact FillA.nil|(apply FillA.agg;(focus rfl);(focus rfl);(focus (repeat (first|exact SetAs.z|(apply SetAs.c;(focus (repeat first|assumption|constructor)))))))|(apply FillA.one;(focus rfl);(focus infer_instance);(focus (repeat first|assumption|constructor)))))))|refine Rf.mk ⟨rfl, rfl⟩ ?_|refine Rf.mk ⟨rfl, rfl, rfl⟩ ?_|(apply Mp.lit;(focus repeat (first|exact MpL.nil|(apply MpL.cons;(focus rfl))|(apply MpL.inv;(focus repeat constructor);(focus infer_instance)))))|(apply Ov.n;(focus first|omega|(simp <;> omega)))|(apply Cl.p (hso);(focus repeat' (first|exact Lend.nil|apply Lend.keep|fail))))
     rw [← hv, ← hsu]
     exact PA.lp (i + 1, _) ⟨by repeat first|trivial|refine ⟨rfl,?_⟩,by repeat first|exact .nil|refine .cons (by repeat constructor) ?_⟩ ⟨hin, by simp only;omega⟩
  ·have hb : inB t g := hb.1 rfl
   have hv : valK t g = [1] := by rw [valK, if_pos hb.1, setV, if_pos hb.2]
   (repeat' (first|(show CA _ _ (Code.region 17 _ _) _ _;apply Stopped.out)|refine Sp.h ?_|refine Lk.r rfl ?_|refine Rf.mk rfl ?_|(apply Bd.f;(focus first|assumption|omega|exact Bool.false_ne_true))|(refine Im.mk ?_;intro _)|(apply TkB.r;(focus repeat constructor))|fail));any_goals apply Stopped.mk
   (repeat' (first|(show OA _ _ _ (List.cons ⟨_, Op.buildSlice 72 _ _, _, _, _, _⟩ _) _ _;apply Stopped.out)|refine Sp.h ?_|refine Lk.r rfl ?_|refine Rf.mk rfl ?_|(refine All.mk ?_;intro _)|(apply Fk.r;(focus (repeat (first|exact FillA.nil|(apply FillA.agg;(focus rfl);(focus rfl);(focus (repeat (first|exact SetAs.z|(apply SetAs.c;(focus (repeat first|assumption|constructor)))))))|(apply FillA.one;(focus rfl);(focus infer_instance);(focus (repeat first|assumption|constructor)))))))|refine Rf.mk ⟨rfl, rfl, rfl⟩ ?_|fail));any_goals apply Stopped.mk
   apply OA.retype (m := ([1] : List Int)) (g := i1)
   focus exact Take.here
   focus rfl
   apply OA.freeze 94
   focus rfl
   focus (repeat constructor)
   focus exact Nat.le_of_ble_eq_true rfl
   repeat' (first|refine Sp.h ?_|refine Lk.r rfl ?_|refine Rf.mk rfl ?_|(apply Om.mk;(focus first|omega|(simp <;> omega)))|(refine All.mk ?_;intro _)|(apply TkA.r;(focus repeat constructor))|refine Ce.r ?_|(apply Fk.r;(focus (repeat (first|exact FillA.nil|(apply FillA.agg;(focus rfl);(focus rfl);(focus (repeat (first|exact SetAs.z|(apply SetAs.c;(focus (repeat first|assumption|constructor)))))))|(apply FillA.one;(focus rfl);(focus infer_instance);(focus (repeat first|assumption|constructor)))))))|refine Rf.mk ⟨rfl, rfl⟩ ?_|refine Rf.mk ⟨rfl, rfl, rfl⟩ ?_|(apply Mp.lit;(focus repeat (first|exact MpL.nil|(apply MpL.cons;(focus rfl))|(apply MpL.inv;(focus repeat constructor);(focus infer_instance)))))|(apply Ov.n;(focus first|omega|(simp <;> omega)))|fail)
   rw [← hv, ← hsu]
   exact PA.lp (i + 1, _) ⟨by repeat first|trivial|refine ⟨rfl,?_⟩,by repeat first|exact .nil|refine .cons (by repeat constructor) ?_⟩ ⟨hin, by simp only;omega⟩
 ·have hie : i = (mrgF m).length := by omega
  subst hie
  rw [List.take_length, List.take_of_length_le (l := l) (by omega)]
  repeat' (first|refine Sp.h ?_|refine Lk.r rfl ?_|refine Rf.mk rfl ?_|(apply Bd.f;(focus first|assumption|omega|exact Bool.false_ne_true))|(refine Im.mk ?_;intro _)|(apply Nm.r;focus repeat constructor)|fail)
  exact ⟨_, _, .tup (.same (.same (.nil (by (repeat first|exact .nil|refine .cons (by repeat constructor) ?_))))), _, rfl, rfl⟩
end Go.Proofs.YtmllihbhphnolaaGreat
namespace Go.Proofs.YtmllihbhphnolaaGreat
open Go Go.CF
set_option maxRecDepth 20000
theorem set_same {α : Type} {D : List α} {i : Nat} {x : α} (hx : D[i]? = some x) : D.set i x = D := by
 apply List.ext_getElem?
 intro j
 have hl := (List.getElem?_eq_some_iff.1 hx).1
 rw [List.getElem?_set]
 split
 ·rename_i hj;subst hj;first|rw [if_pos hl, hx] | rw [hx]
 ·rfl
end Go.Proofs.YtmllihbhphnolaaGreat
namespace Go.Proofs.YtmllihbhphnolaaGreat
open Go Go.CF
set_option maxRecDepth 20000
theorem fgK_len (c : List Int) (l : List MkS) : (fgK c l).length ≤ l.length := List.length_filter_le _ _
theorem fgK_succ {c : List Int} {l : List MkS} {i : Nat} {x : MkS} (hx : l[i]? = some x) : fgK c (l.take (i + 1)) = fgK c (l.take i) ++ if HasC c x.rep x.num then [] else [x] := by
 rw [List.take_add_one, hx, fgK, List.filter_append]
 by_cases h : HasC c x.rep x.num
 ·rw [if_pos h];simp [fgK, h]
 ·rw [if_neg h];simp [fgK, h]
theorem unseen_p (l : List MkS) (c : List Int) (hl : l.length ≤ 100000) : CallP Tryz.prog 278 [mks l, ints c] (mks (fgK c l)) := by
 have hln := fgK_len c l
 refine CallA.fz (T := 125) (by omega) ?_
 refine CallA.of pg ord278 Tryz.func278 rfl Tryz.ntmps278 Tryz.results278 rfl fun h0 G0 O0 => ?_
 repeat' (first|refine Sp.h ?_|refine Lk.r rfl ?_|refine Rf.mk rfl ?_|(refine All.mk ?_;intro _)|(apply Fk.r;(focus (repeat (first|exact FillA.nil|(apply FillA.agg;(focus rfl);(focus rfl);(focus (repeat (first|exact SetAs.z|(apply SetAs.c;(focus (repeat first|assumption|constructor)))))))|(apply FillA.one;(focus rfl);(focus infer_instance);(focus (repeat first|assumption|constructor)))))))|refine Rf.mk ⟨rfl, rfl, rfl⟩ ?_|fail)
 rename_i v
 apply CA.retype (m := ([] : List MkS)) (g := mkC)
 focus (repeat constructor)
 focus rfl
 refine CA.loop (fun x : Nat × Value => ⟨[(0, mks l), (1, ints c), (5, .ow x.2), (6, it x.1)], [arrR x.2 125 4 (fgK c (l.take x.1)) mkC]⟩) (fun x => x.1 ≤ l.length) (fun x => l.length - x.1) (0, v) ⟨by repeat first|trivial|refine ⟨rfl,?_⟩,by repeat first|exact .nil|refine .cons (by repeat constructor) ?_⟩ (Nat.zero_le _) ?_
 rintro ⟨i, w⟩ hi
 simp only at hi
 simp only
 by_cases hin : i < l.length
 ·obtain ⟨x, hx⟩ := get_of hin
  have hsu := fgK_succ (c := c) hx
  have hll := fgK_len c (l.take i)
  rw [List.length_take] at hll
  by_cases hh : HasC c x.rep x.num
  ·rw [if_pos hh, List.append_nil] at hsu
   repeat' (first|refine Sp.h ?_|refine Lk.r rfl ?_|refine Rf.mk rfl ?_|(apply Bd.t;(focus first|assumption|omega|rfl))|refine OpK.r rfl ?_|(refine Im.mk ?_;intro _)|(apply Ix.q;(focus exact rfl);(focus assumption))|(apply Fk.r;(focus (repeat (first|exact FillA.nil|(apply FillA.agg;(focus rfl);(focus rfl);(focus (repeat (first|exact SetAs.z|(apply SetAs.c;(focus (repeat first|assumption|constructor)))))))|(apply FillA.one;(focus rfl);(focus infer_instance);(focus (repeat first|assumption|constructor)))))))|(apply CA.draw;(focus rfl);(focus kernel_rfl);(focus kernel_rfl);(focus repeat' constructor);(focus rfl))|(apply Ov.n;(focus first|omega|(simp <;> omega)))|(apply Cl.p (hasR_p _ _ _);(focus repeat' (first|exact Lend.nil|apply Lend.keep|fail))))
   all_goals rw [← hsu]
   all_goals exact PA.lp (i + 1, w) ⟨by repeat first|trivial|refine ⟨rfl,?_⟩,by repeat first|exact .nil|refine .cons (by repeat constructor) ?_⟩ ⟨hin, by simp only;omega⟩
  ·rw [if_neg hh] at hsu
   repeat' (first|refine Sp.h ?_|refine Lk.r rfl ?_|refine Rf.mk rfl ?_|(apply Bd.t;(focus first|assumption|omega|rfl))|(apply Bd.f;(focus first|assumption|omega|exact Bool.false_ne_true))|refine OpK.r rfl ?_|(apply Om.mk;(focus first|omega|(simp <;> omega)))|(refine Im.mk ?_;intro _)|(refine All.mk ?_;intro _)|(apply TkA.r;(focus repeat constructor))|(apply Ix.q;(focus exact rfl);(focus assumption))|refine Ce.r ?_|refine Ch.l ⟨rfl, rfl⟩ ?_|(apply Fk.r;(focus (repeat (first|exact FillA.nil|(apply FillA.agg;(focus rfl);(focus rfl);(focus (repeat (first|exact SetAs.z|(apply SetAs.c;(focus (repeat first|assumption|constructor)))))))|(apply FillA.one;(focus rfl);(focus infer_instance);(focus (repeat first|assumption|constructor)))))))|refine Rf.mk ⟨rfl, rfl⟩ ?_|refine Rf.mk ⟨rfl, rfl, rfl⟩ ?_|(apply Mp.lit;(focus repeat (first|exact MpL.nil|(apply MpL.cons;(focus rfl))|(apply MpL.inv;(focus repeat constructor);(focus infer_instance)))))|(apply CA.draw;(focus rfl);(focus kernel_rfl);(focus kernel_rfl);(focus repeat' constructor);(focus rfl))|(apply Ov.n;(focus first|omega|(simp <;> omega)))|(apply Cl.p (hasR_p _ _ _);(focus repeat' (first|exact Lend.nil|apply Lend.keep|fail))))
   all_goals rw [← hsu]
   all_goals exact PA.lp (i + 1, _) ⟨by repeat first|trivial|refine ⟨rfl,?_⟩,by repeat first|exact .nil|refine .cons (by repeat constructor) ?_⟩ ⟨hin, by simp only;omega⟩
 ·have hie : i = l.length := by omega
  subst hie
  rw [List.take_length]
  repeat' (first|refine Sp.h ?_|refine Lk.r rfl ?_|refine Rf.mk rfl ?_|(apply Bd.f;(focus first|assumption|omega|exact Bool.false_ne_true))|(refine Im.mk ?_;intro _)|(apply Nm.r;focus repeat constructor)|fail)
  exact ⟨_, _, .one (.same (.nil (by (repeat first|exact .nil|refine .cons (by repeat constructor) ?_)))), _, rfl, rfl⟩
noncomputable def valuesQ (m : ModS) (l : List MgS) : Int × List (List Int) := @ite _ (ValL (mrgF m) l) (Classical.propDecidable _) (0, valsF (mrgF m) l) (1, [])
theorem valuesQ_ok {m : ModS} {l : List MgS} (h : ValL (mrgF m) l) : valuesQ m l = (0, valsF (mrgF m) l) := @if_pos _ (Classical.propDecidable _) h _ _ _
theorem valuesQ_bad {m : ModS} {l : List MgS} (h : ¬ ValL (mrgF m) l) : valuesQ m l = (1, []) := @if_neg _ (Classical.propDecidable _) h _ _ _
abbrev resV (q : Int × List (List Int)) : AV := .tup [clks q.2, it q.1]
theorem valuesQ_p (m : ModS) (l : List MgS) (hm : MOK m) : CallP Tryz.prog 130 [mdl m, mgs l] (resV (valuesQ m l)) := by
 by_cases hv : ValL (mrgF m) l
 ·rw [valuesQ_ok hv];exact valuesM_p m l hm.lay hv (by have := hm.mrg;omega)
 ·have hva := validM_p m l hm.lay
  rw [valuesQ_bad hv]
  refine CallA.conv (a := .tup [.val (.slice none 0 0), it 1]) (.tup (.cons ALe.nil (.cons (ALe.refl _) .nil))) ?_
  refine CallA.of pg ord130 Tryz.func130 rfl Tryz.ntmps130 Tryz.results130 rfl fun h0 G0 O0 => ?_
  repeat' (first|refine Sp.h ?_|refine Lk.r rfl ?_|refine Rf.mk rfl ?_|(apply Bd.f;(focus first|assumption|omega|exact Bool.false_ne_true))|(refine All.mk ?_;intro _)|(apply TkB.r;(focus repeat constructor))|refine Ch.l ⟨rfl, rfl⟩ ?_|(apply Nm.r;focus repeat constructor)|(apply Cl.p (hva);(focus repeat' (first|exact Lend.nil|apply Lend.keep|fail))))
  exact Fin.p rfl rfl
theorem valuesQ34_p (m : ModS) (l : List MgS) (hm : MOK m) : CallP Tryz.prog 128 [mdl m, mgs l] (resV (valuesQ m l)) := by
 by_cases hv : ValL (mrgF m) l
 ·rw [valuesQ_ok hv];exact values34_p m l hm.lay hv (by have := hm.mrg;omega)
 ·have hva := validR34_p m l hm.lay
  rw [valuesQ_bad hv]
  refine CallA.conv (a := .tup [.val (.slice none 0 0), it 1]) (.tup (.cons ALe.nil (.cons (ALe.refl _) .nil))) ?_
  refine CallA.of pg ord128 Tryz.func128 rfl Tryz.ntmps128 Tryz.results128 rfl fun h0 G0 O0 => ?_
  repeat' (first|refine Sp.h ?_|refine Lk.r rfl ?_|refine Rf.mk rfl ?_|(apply Bd.f;(focus first|assumption|omega|exact Bool.false_ne_true))|(refine All.mk ?_;intro _)|(apply TkB.r;(focus repeat constructor))|refine Ch.l ⟨rfl, rfl⟩ ?_|(apply Nm.r;focus repeat constructor)|(apply Cl.p (hva);(focus repeat' (first|exact Lend.nil|apply Lend.keep|fail))))
  exact Fin.p rfl rfl
end Go.Proofs.YtmllihbhphnolaaGreat
namespace Go.Proofs.YtmllihbhphnolaaGreat
open Go Go.CF
set_option maxRecDepth 20000
def joinC (a b : List Int) : List Int := zipC max a b
theorem clone_z (l : List Int) (hl : l.length ≤ 1000000000) : CallP Tryz.prog 83 [ints l] (ints l) := CallA.fz (by omega) (clone_o l hl)
end Go.Proofs.YtmllihbhphnolaaGreat
namespace Go.Proofs.YtmllihbhphnolaaGreat
open Go Go.CF
set_option maxRecDepth 20000
section
variable (s : Nat) (m : ModS) (b : NowS) (v : Value) (w : NowS)
theorem sstate_a (h : w.state.length ≤ 100000) : CallA Tryz.prog 52 [pm s] [stoR s m b v w] fun r own => ∃ u, r = .ow u ∧ own = [arrR u 3 1 w.state intC, stoR s m b v w] := by
 have h1 := clone_o w.state (by omega)
 refine CallA.of pg ord52 Tryz.func52 rfl Tryz.ntmps52 Tryz.results52 rfl fun h0 G0 O0 => ?_
 repeat' (first|refine Sp.h ?_|refine Lk.r rfl ?_|refine Rf.mk rfl ?_|(apply TkB.r;(focus repeat constructor))|fail)
 (refine Cl.use (h1) (by repeat' (first|exact Lend.nil|apply Lend.keep|fail)) .nil rfl ?_;rintro _ _ ⟨_, rfl, rfl⟩)
 repeat' (first|refine Sp.h ?_|refine Lk.r rfl ?_|(apply Nm.r;focus repeat constructor)|fail)
 exact ⟨_, _, .one (.same (.nil (by (repeat first|exact .nil|refine .cons (by repeat constructor) ?_)))), _, rfl, rfl⟩
theorem sstate_p (h : w.state.length ≤ 100000) : CallA Tryz.prog 52 [pm s] [stoR s m b v w] fun r own => r = ints w.state ∧ own = [stoR s m b v w] :=
 CallA.fxr (sstate_a s m b v w h) (by rintro _ _ ⟨u, rfl, rfl⟩;exact ⟨_, _, FX.s1 .here (by omega) .nil, rfl, rfl⟩)
abbrev stoV (m : ModS) (b : NowS) (l : List EvS) (w : NowS) : List AV := [ints m.sorts, tbls m.tables, .sl 1 m.families strC, .sl 6 m.cons cnsC, .sl 3 m.ops opC, .sl 5 m.acts actC, .sl 3 m.hides updC, ints b.clock, it b.time, ints b.state, mgs b.merged, nl0, nl0, ints b.places, evs l, ints w.clock, it w.time, ints w.state, mgs w.merged, ints w.places]
theorem sevents_r (l : List EvS) (hl : l.length ≤ 1000000) (hm : ∀ e ∈ l, e.past.length ≤ 1000000) : CallA Tryz.prog 63 [.ad (stoV m b l w) 0] [] fun r own => ∃ u L, r = .ow u ∧ L.map EvE.e = l ∧ own = outE u L := by
 have h := cloneEs_a l hl hm
 refine CallA.of pg ord63 Tryz.func63 rfl Tryz.ntmps63 Tryz.results63 rfl fun h0 G0 O0 => ?_
 repeat' (first|refine Sp.h ?_|refine Lk.r rfl ?_|refine Rf.mk rfl ?_|fail)
 (apply Cl.use (h);(focus repeat' (first|exact Lend.nil|apply Lend.keep|fail));(focus (repeat (first|exact Takes.nil|(apply Takes.cons;(focus repeat constructor)))));(focus rfl))
 rintro _ _ ⟨u, L, rfl, hL, rfl⟩
 repeat' (first|refine Sp.h ?_|refine Lk.r rfl ?_|(apply Nm.r;focus repeat constructor)|fail)
 exact ⟨_, _, .one (.same (.nil (by (repeat first|exact .nil|refine .cons (by repeat constructor) ?_)))), u, L, rfl, hL, rfl⟩
theorem sclock_r (l : List EvS) (h : w.clock.length ≤ 100000) : CallO Tryz.prog 16 [.ad (stoV m b l w) 0] 3 1 w.clock intC := by
 have h1 := clone_o w.clock (by omega)
 refine CallA.of pg ord16 Tryz.func16 rfl Tryz.ntmps16 Tryz.results16 rfl fun h0 G0 O0 => ?_
 repeat' (first|refine Sp.h ?_|refine Lk.r rfl ?_|refine Rf.mk rfl ?_|fail)
 (refine Cl.use (h1) (by repeat' (first|exact Lend.nil|apply Lend.keep|fail)) .nil rfl ?_;rintro _ _ ⟨_, rfl, rfl⟩)
 repeat' (first|refine Sp.h ?_|refine Lk.r rfl ?_|(apply Nm.r;focus repeat constructor)|fail)
 exact ⟨_, _, .one (.same (.nil (by (repeat first|exact .nil|refine .cons (by repeat constructor) ?_)))), _, rfl, rfl⟩
theorem sstate_r (l : List EvS) (h : w.state.length ≤ 100000) : CallO Tryz.prog 52 [.ad (stoV m b l w) 0] 3 1 w.state intC := by
 have h1 := clone_o w.state (by omega)
 refine CallA.of pg ord52 Tryz.func52 rfl Tryz.ntmps52 Tryz.results52 rfl fun h0 G0 O0 => ?_
 repeat' (first|refine Sp.h ?_|refine Lk.r rfl ?_|refine Rf.mk rfl ?_|fail)
 (refine Cl.use (h1) (by repeat' (first|exact Lend.nil|apply Lend.keep|fail)) .nil rfl ?_;rintro _ _ ⟨_, rfl, rfl⟩)
 repeat' (first|refine Sp.h ?_|refine Lk.r rfl ?_|(apply Nm.r;focus repeat constructor)|fail)
 exact ⟨_, _, .one (.same (.nil (by (repeat first|exact .nil|refine .cons (by repeat constructor) ?_)))), _, rfl, rfl⟩
theorem splaces_r (l : List EvS) (h : w.places.length ≤ 100000) : CallO Tryz.prog 65 [.ad (stoV m b l w) 0] 3 1 w.places intC := by
 have h1 := clone_o w.places (by omega)
 refine CallA.of pg ord65 Tryz.func65 rfl Tryz.ntmps65 Tryz.results65 rfl fun h0 G0 O0 => ?_
 repeat' (first|refine Sp.h ?_|refine Lk.r rfl ?_|refine Rf.mk rfl ?_|fail)
 (refine Cl.use (h1) (by repeat' (first|exact Lend.nil|apply Lend.keep|fail)) .nil rfl ?_;rintro _ _ ⟨_, rfl, rfl⟩)
 repeat' (first|refine Sp.h ?_|refine Lk.r rfl ?_|(apply Nm.r;focus repeat constructor)|fail)
 exact ⟨_, _, .one (.same (.nil (by (repeat first|exact .nil|refine .cons (by repeat constructor) ?_)))), _, rfl, rfl⟩
theorem stime_r (l : List EvS) : CallP Tryz.prog 17 [.ad (stoV m b l w) 0] (it w.time) := by
 refine CallA.of pg ord17 Tryz.func17 rfl Tryz.ntmps17 Tryz.results17 rfl fun h0 G0 O0 => ?_
 repeat' (first|refine Sp.h ?_|refine Lk.r rfl ?_|refine Rf.mk rfl ?_|(apply Nm.r;focus repeat constructor)|fail)
 exact Fin.p rfl rfl
theorem sevents_z (l : List EvS) (hl : l.length ≤ 1000000) (hm : ∀ e ∈ l, e.past.length ≤ 1000000) : CallP Tryz.prog 63 [.ad (stoV m b l w) 0] (evs l) := by
 refine CallA.fx (sevents_r m b w l hl hm) ?_
 rintro _ _ ⟨u, L, rfl, hL, rfl⟩
 have h := outE_fx (v := u) (L := L) (o := []) (by have := congrArg List.length hL;simp at this;omega) (fun x hx => hm x.e (by rw [← hL];exact List.mem_map_of_mem hx)) .nil
 rw [hL] at h
 simpa using h
theorem sclock_z (l : List EvS) (h : w.clock.length ≤ 100000) : CallP Tryz.prog 16 [.ad (stoV m b l w) 0] (ints w.clock) := CallA.fz (by omega) (sclock_r m b w l h)
theorem sstate_z (l : List EvS) (h : w.state.length ≤ 100000) : CallP Tryz.prog 52 [.ad (stoV m b l w) 0] (ints w.state) := CallA.fz (by omega) (sstate_r m b w l h)
theorem splaces_z (l : List EvS) (h : w.places.length ≤ 100000) : CallP Tryz.prog 65 [.ad (stoV m b l w) 0] (ints w.places) := CallA.fz (by omega) (splaces_r m b w l h)
theorem svalues_r (l : List EvS) (hm : MOK m) : CallP Tryz.prog 62 [.ad (stoV m b l w) 0] (clks (valuesQ m w.merged).2) := by
 have h1 := valuesQ_p m w.merged hm
 refine CallA.of pg ord62 Tryz.func62 rfl Tryz.ntmps62 Tryz.results62 rfl fun h0 G0 O0 => ?_
 repeat' (first|refine Sp.h ?_|refine Lk.r rfl ?_|refine Rf.mk rfl ?_|refine OpK.r rfl ?_|refine Ch.r ?_|(apply Nm.r;focus repeat constructor)|(apply CA.draw;(focus rfl);(focus kernel_rfl);(focus kernel_rfl);(focus repeat' constructor);(focus rfl))|(apply Cl.p (h1);(focus repeat' (first|exact Lend.nil|apply Lend.keep|fail))))
 exact Fin.p rfl rfl
theorem sbase_r (l : List EvS) (h : SzN b) : CallP Tryz.prog 35 [.ad (stoV m b l w) 0] (basA b) := by
 have h1 := cloneBase_p b nl0 nl0 h
 refine CallA.of pg ord35 Tryz.func35 rfl Tryz.ntmps35 Tryz.results35 rfl fun h0 G0 O0 => ?_
 repeat' (first|refine Sp.h ?_|refine Lk.r rfl ?_|refine Rf.mk rfl ?_|(refine All.mk ?_;intro _)|(apply TkB.r;(focus repeat constructor))|refine Ch.r ?_|(apply SetAsk.r;(focus (repeat (first|exact SetAs.z|(apply SetAs.c;(focus (repeat first|assumption|constructor)))))))|(apply Nm.r;focus repeat constructor)|(apply Cl.p (h1);(focus repeat' (first|exact Lend.nil|apply Lend.keep|fail))))
 exact Fin.p rfl rfl
end
def ev0 : EvS := ⟨0, 0, 0, [], 0, 0, 0, 0, 0, 0, 0, 0, 0⟩
def mkN (w : NowS) (r : Int) (x : EvS) : EvS := ⟨r, (w.clock[r.toNat]?.getD 0) + 1, w.time + 1, w.clock, x.kind, x.action, x.gk, x.gi, x.ge, x.ga, x.to, x.place, x.serial⟩
noncomputable def makeF (m : ModS) (w : NowS) (r : Int) (x : EvS) : Int × EvS :=
 if r < 0 ∨ (w.clock.length : Int) ≤ r then (2, ev0)
 else if 1024 ≤ w.clock[r.toNat]?.getD 0 ∨ 1073741824 ≤ w.time then (8, ev0)
 else if ¬ EvV m (w.clock.length : Nat) (mkN w r x) then (1, ev0)
 else (0, mkN w r x)
set_option maxHeartbeats 4000000 in
theorem smake_a (s : Nat) (m : ModS) (b : NowS) (v : Value) (w : NowS) (r : Int) (x : EvS) (hc : w.clock.length ≤ 5) (hb : ∀ y ∈ w.clock, -1000000 ≤ y) (ht : -1000000 ≤ w.time) :
  CallA Tryz.prog 18 [pm s, it r, evA' x] [stoR s m b v w] fun q own => q = .tup [evA' (makeF m w r x).2, it (makeF m w r x).1] ∧ own = [stoR s m b v w] := by
 have hcl := clone_z w.clock (by omega)
 have hz : ∀ e, CallA Tryz.prog 18 [pm s, it r, evA' x] [stoR s m b v w] (fun q own => q = .tup [.agg [it 0, it 0, it 0, nl0, it 0, it 0, it 0, it 0, it 0, it 0, it 0, it 0, it 0], it e] ∧ own = [stoR s m b v w]) → CallA Tryz.prog 18 [pm s, it r, evA' x] [stoR s m b v w] fun q own => q = .tup [evA' ev0, it e] ∧ own = [stoR s m b v w] := fun e h =>
  CallA.fxr h (by
   rintro _ _ ⟨rfl, rfl⟩
   refine ⟨.tup [evA' ev0, it e], [stoR s m b v w], .tup (.agg ?_ (FX.refl _)) .nil, rfl, rfl⟩
   exact FX.k (FX.k (FX.k (FX.kn (FX.refl _)))))
 by_cases h1 : r < 0 ∨ (w.clock.length : Int) ≤ r
 ·rw [makeF, if_pos h1]
  refine hz 2 ?_
  refine CallA.of pg ord18 Tryz.func18 rfl Tryz.ntmps18 Tryz.results18 rfl fun h0 G0 O0 => ?_
  rcases h1 with h1|h1
  all_goals repeat' (first|refine Sp.h ?_|refine Lk.r rfl ?_|refine Rf.mk rfl ?_|(apply Bd.t;(focus first|assumption|omega|rfl))|(apply Bd.f;(focus first|assumption|omega|exact Bool.false_ne_true))|(refine Im.mk ?_;intro _)|(refine All.mk ?_;intro _)|(apply TkB.r;(focus repeat constructor))|(apply SetAsk.r;(focus (repeat (first|exact SetAs.z|(apply SetAs.c;(focus (repeat first|assumption|constructor)))))))|(apply Fk.r;(focus (repeat (first|exact FillA.nil|(apply FillA.agg;(focus rfl);(focus rfl);(focus (repeat (first|exact SetAs.z|(apply SetAs.c;(focus (repeat first|assumption|constructor)))))))|(apply FillA.one;(focus rfl);(focus infer_instance);(focus (repeat first|assumption|constructor)))))))|(apply Nm.r;focus repeat constructor)|fail)
  all_goals exact ⟨_, _, .tup (.same (.same (.nil (by (repeat first|exact .nil|refine .cons (by repeat constructor) ?_))))), rfl, rfl⟩
 obtain ⟨y, hy⟩ := get_of (l := w.clock) (i := r.toNat) (by omega)
 have hyb := hb y (List.mem_of_getElem? hy)
 have hev := evalid_p m (w.clock.length : Nat) (mkN w r x)
 have hmk : mkN w r x = ⟨r, y + 1, w.time + 1, w.clock, x.kind, x.action, x.gk, x.gi, x.ge, x.ga, x.to, x.place, x.serial⟩ := by rw [mkN, hy];rfl
 rw [makeF, if_neg h1, hy, Option.getD_some]
 by_cases h2 : 1024 ≤ y ∨ 1073741824 ≤ w.time
 ·rw [if_pos h2]
  refine hz 8 ?_
  refine CallA.of pg ord18 Tryz.func18 rfl Tryz.ntmps18 Tryz.results18 rfl fun h0 G0 O0 => ?_
  by_cases h3 : 1024 ≤ y
  ·repeat' (first|refine Sp.h ?_|refine Lk.r rfl ?_|refine Rf.mk rfl ?_|(apply Bd.t;(focus first|assumption|omega|rfl))|(apply Bd.f;(focus first|assumption|omega|exact Bool.false_ne_true))|(refine Im.mk ?_;intro _)|(refine All.mk ?_;intro _)|(apply TkB.r;(focus repeat constructor))|(apply Ix.r;(focus assumption);(focus omega))|(apply SetAsk.r;(focus (repeat (first|exact SetAs.z|(apply SetAs.c;(focus (repeat first|assumption|constructor)))))))|(apply Fk.r;(focus (repeat (first|exact FillA.nil|(apply FillA.agg;(focus rfl);(focus rfl);(focus (repeat (first|exact SetAs.z|(apply SetAs.c;(focus (repeat first|assumption|constructor)))))))|(apply FillA.one;(focus rfl);(focus infer_instance);(focus (repeat first|assumption|constructor)))))))|(apply Nm.r;focus repeat constructor)|fail)
   exact ⟨_, _, .tup (.same (.same (.nil (by (repeat first|exact .nil|refine .cons (by repeat constructor) ?_))))), rfl, rfl⟩
  ·have h4 : 1073741824 ≤ w.time := by omega
   repeat' (first|refine Sp.h ?_|refine Lk.r rfl ?_|refine Rf.mk rfl ?_|(apply Bd.t;(focus first|assumption|omega|rfl))|(apply Bd.f;(focus first|assumption|omega|exact Bool.false_ne_true))|(refine Im.mk ?_;intro _)|(refine All.mk ?_;intro _)|(apply TkB.r;(focus repeat constructor))|(apply Ix.r;(focus assumption);(focus omega))|(apply SetAsk.r;(focus (repeat (first|exact SetAs.z|(apply SetAs.c;(focus (repeat first|assumption|constructor)))))))|(apply Fk.r;(focus (repeat (first|exact FillA.nil|(apply FillA.agg;(focus rfl);(focus rfl);(focus (repeat (first|exact SetAs.z|(apply SetAs.c;(focus (repeat first|assumption|constructor)))))))|(apply FillA.one;(focus rfl);(focus infer_instance);(focus (repeat first|assumption|constructor)))))))|(apply Nm.r;focus repeat constructor)|fail)
   exact ⟨_, _, .tup (.same (.same (.nil (by (repeat first|exact .nil|refine .cons (by repeat constructor) ?_))))), rfl, rfl⟩
 rw [if_neg h2]
 by_cases h3 : EvV m (w.clock.length : Nat) (mkN w r x)
 ·rw [if_neg (fun h => h h3)]
  rw [decide_eq_true h3] at hev
  rw [hmk] at hev ⊢
  refine CallA.of pg ord18 Tryz.func18 rfl Tryz.ntmps18 Tryz.results18 rfl fun h0 G0 O0 => ?_
  repeat' (first|refine Sp.h ?_|refine Lk.r rfl ?_|refine Rf.mk rfl ?_|(apply Bd.t;(focus first|assumption|omega|rfl))|(apply Bd.f;(focus first|assumption|omega|exact Bool.false_ne_true))|refine OpK.r rfl ?_|(refine Im.mk ?_;intro _)|(refine All.mk ?_;intro _)|(apply TkB.r;(focus repeat constructor))|(apply Ix.r;(focus assumption);(focus omega))|refine Ch.l ⟨rfl, rfl⟩ ?_|refine Ch.r ?_|(apply SetAsk.r;(focus (repeat (first|exact SetAs.z|(apply SetAs.c;(focus (repeat first|assumption|constructor)))))))|(apply Fk.r;(focus (repeat (first|exact FillA.nil|(apply FillA.agg;(focus rfl);(focus rfl);(focus (repeat (first|exact SetAs.z|(apply SetAs.c;(focus (repeat first|assumption|constructor)))))))|(apply FillA.one;(focus rfl);(focus infer_instance);(focus (repeat first|assumption|constructor)))))))|(apply Nm.r;focus repeat constructor)|(apply CA.draw;(focus rfl);(focus kernel_rfl);(focus kernel_rfl);(focus repeat' constructor);(focus rfl))|exact trivial|apply RA'.both|(apply Ov.n;(focus first|omega|(simp <;> omega)))|(apply Cl.p (hcl);(focus ((repeat' (first|exact Lend.nil|apply Lend.keep|fail));done)))|(apply Cl.p (hev);(focus ((repeat' (first|exact Lend.nil|apply Lend.keep|fail));done))))
  all_goals exact ⟨_, _, .tup (.same (.same (.nil (by (repeat first|exact .nil|refine .cons (by repeat constructor) ?_))))), rfl, rfl⟩
 ·rw [if_pos h3]
  rw [decide_eq_false h3] at hev
  rw [hmk] at hev
  refine hz 1 ?_
  refine CallA.of pg ord18 Tryz.func18 rfl Tryz.ntmps18 Tryz.results18 rfl fun h0 G0 O0 => ?_
  repeat' (first|refine Sp.h ?_|refine Lk.r rfl ?_|refine Rf.mk rfl ?_|(apply Bd.f;(focus first|assumption|omega|exact Bool.false_ne_true))|refine OpK.r rfl ?_|(refine Im.mk ?_;intro _)|(refine All.mk ?_;intro _)|(apply TkB.r;(focus repeat constructor))|(apply Ix.r;(focus assumption);(focus omega))|refine Ch.l ⟨rfl, rfl⟩ ?_|refine Ch.r ?_|(apply SetAsk.r;(focus (repeat (first|exact SetAs.z|(apply SetAs.c;(focus (repeat first|assumption|constructor)))))))|(apply Fk.r;(focus (repeat (first|exact FillA.nil|(apply FillA.agg;(focus rfl);(focus rfl);(focus (repeat (first|exact SetAs.z|(apply SetAs.c;(focus (repeat first|assumption|constructor)))))))|(apply FillA.one;(focus rfl);(focus infer_instance);(focus (repeat first|assumption|constructor)))))))|(apply Nm.r;focus repeat constructor)|(apply CA.draw;(focus rfl);(focus kernel_rfl);(focus kernel_rfl);(focus repeat' constructor);(focus rfl))|exact trivial|apply RA'.both|(apply Ov.n;(focus first|omega|(simp <;> omega)))|(apply Cl.p (hcl);(focus ((repeat' (first|exact Lend.nil|apply Lend.keep|fail));done)))|(apply Cl.p (hev);(focus ((repeat' (first|exact Lend.nil|apply Lend.keep|fail));done))))
  all_goals exact ⟨_, _, .tup (.same (.same (.nil (by (repeat first|exact .nil|refine .cons (by repeat constructor) ?_))))), rfl, rfl⟩
end Go.Proofs.YtmllihbhphnolaaGreat
namespace Go.Proofs.YtmllihbhphnolaaGreat
open Go Go.CF
set_option maxRecDepth 20000
abbrev eR (v : Value) (L : List EvS) : Res := arrR v 37 13 L evC
end Go.Proofs.YtmllihbhphnolaaGreat
namespace Go.Proofs.YtmllihbhphnolaaGreat
open Go Go.CF
set_option maxRecDepth 20000
theorem pw_uniq {α : Type} {R : α → α → Prop} (has : ∀ a b, R a b → ¬ R b a) : ∀ s t : List α, s.Pairwise R → t.Pairwise R → (∀ x, x ∈ s ↔ x ∈ t) → s = t := by
 intro s
 induction s with
 | nil =>
  intro t _ _ h
  cases t with
  | nil => rfl
  | cons b t => exact absurd ((h b).2 (by simp)) (by simp)
 | cons a s ih =>
  intro t hs ht h
  cases t with
  | nil => exact absurd ((h a).1 (by simp)) (by simp)
  | cons b t =>
   obtain ⟨h1, h2⟩ := List.pairwise_cons.1 hs
   obtain ⟨h3, h4⟩ := List.pairwise_cons.1 ht
   have hab : a = b := by
    rcases List.mem_cons.1 ((h a).1 (by simp)) with e|e
    ·exact e
    ·rcases List.mem_cons.1 ((h b).2 (by simp)) with e2|e2
     ·exact e2.symm
     ·exact absurd (h3 a e) (has _ _ (h1 b e2))
   subst hab
   rw [ih t h2 h4 fun x => ?_]
   have := h x
   simp only [List.mem_cons] at this
   constructor
   ·intro hx
    rcases this.1 (.inr hx) with e|e
    ·subst e;exact absurd (h1 _ hx) (fun h9 => has _ _ h9 h9)
    ·exact e
   ·intro hx
    rcases this.2 (.inr hx) with e|e
    ·subst e;exact absurd (h3 _ hx) (fun h9 => has _ _ h9 h9)
    ·exact e
theorem LtK_asymm (a b : MkS) : LtK a b → ¬ LtK b a := by unfold LtK;omega
end Go.Proofs.YtmllihbhphnolaaGreat
namespace Go.Proofs.YtmllihbhphnolaaGreat
open Go Go.CF
set_option maxRecDepth 20000
def updE (m : ModS) (e : EvS) (i : Nat) : Option UpS := if e.kind = 0 then updF (usF m e) i else none
noncomputable def mkE (t : TblS) (e : EvS) (u : UpS) : MkS := ⟨e.rep, e.num, e.time, if isReg t.kind then u.2.2 else 0⟩
def bK (k : Int) : Int := if k = 2 then 0 else if k = 3 then 1 else 2
def kK (k : Int) : Int := if k = 2 then 1 else if k = 3 then 0 else 2
def Asg (m : ModS) (t : TblS) (i : Nat) (P : List EvS) (x : MkS) : Prop := ∃ e ∈ P, ∃ u, updE m e i = some u ∧ u.1 = bK t.kind ∧ x = mkE t e u
def Liv (m : ModS) (t : TblS) (i : Nat) (P : List EvS) (x : MkS) : Prop := ∃ e ∈ P, ∃ u, updE m e i = some u ∧ u.1 = bK t.kind ∧ x = mkE t e u ∧ ∀ d ∈ P, ∀ w, updE m d i = some w → w.1 = kK t.kind → ¬ HasC d.past e.rep e.num
def PutP (m : ModS) (t : TblS) (i : Nat) (P : List EvS) : Prop := t.kind = 3 ∧ ∃ e ∈ P, ∃ u, updE m e i = some u ∧ u.1 = 0
def Kn4 (m : ModS) (t : TblS) (i : Nat) (P : List EvS) (l : List MkS) : Prop := (l = [] ∧ ∀ x, ¬ Asg m t i P x) ∨ ∃ x, l = [x] ∧ Asg m t i P x ∧ ∀ y, Asg m t i P y → ¬ LtK x y
structure Kn (m : ModS) (t : TblS) (i : Nat) (P : List EvS) (g : MgS) : Prop where
 put : g.put = true ↔ PutP m t i P
 drop : g.drop = false
 srt : g.marks.Pairwise LtK
 four : t.kind = 4 → Kn4 m t i P g.marks
 liv : t.kind ≠ 4 → ∀ x, x ∈ g.marks ↔ Liv m t i P x
def UniqP (P : List EvS) : Prop := ∀ a ∈ P, ∀ b ∈ P, a.rep = b.rep → a.num = b.num → a = b
theorem asg_nm {m : ModS} {t : TblS} {i : Nat} {P : List EvS} (hu : UniqP P) {x y : MkS} (hx : Asg m t i P x) (hy : Asg m t i P y) (hn : Nm x y) : x = y := by
 obtain ⟨e, he, u, h1, _, rfl⟩ := hx
 obtain ⟨d, hd, w, h3, _, rfl⟩ := hy
 have := hu e he d hd hn.1 hn.2
 subst this
 rw [h1] at h3;cases h3;rfl
theorem liv_asg {m : ModS} {t : TblS} {i : Nat} {P : List EvS} {x : MkS} (h : Liv m t i P x) : Asg m t i P x := by
 obtain ⟨e, he, u, h1, h2, h3, _⟩ := h
 exact ⟨e, he, u, h1, h2, h3⟩
theorem Kn.mem {m : ModS} {t : TblS} {i : Nat} {P : List EvS} {g : MgS} (h : Kn m t i P g) {x : MkS} (hx : x ∈ g.marks) : Asg m t i P x := by
 by_cases k4 : t.kind = 4
 ·rcases h.four k4 with ⟨h1, _⟩|⟨y, h1, h2, _⟩
  ·rw [h1] at hx;cases hx
  ·rw [h1, List.mem_singleton] at hx;subst hx;exact h2
 ·exact liv_asg ((h.liv k4 x).1 hx)
structure Nxt (P : List EvS) (e : EvS) : Prop where
 nm : ∀ p ∈ P, ¬ (p.rep = e.rep ∧ p.num = e.num)
 past : ∀ p ∈ P, ¬ HasC p.past e.rep e.num
 tm : ∀ p ∈ P, ¬ (p.time = e.time ∧ p.rep = e.rep)
 self : ¬ HasC e.past e.rep e.num
theorem asg_snoc {m : ModS} {t : TblS} {i : Nat} {P : List EvS} {e : EvS} {x : MkS} : Asg m t i (P ++ [e]) x ↔ Asg m t i P x ∨ ∃ u, updE m e i = some u ∧ u.1 = bK t.kind ∧ x = mkE t e u := by
 unfold Asg
 simp only [List.mem_append, List.mem_singleton]
 constructor
 ·rintro ⟨d, hd|rfl, h⟩
  ·exact .inl ⟨d, hd, h⟩
  ·exact .inr h
 ·rintro (⟨d, hd, h⟩|h)
  ·exact ⟨d, .inl hd, h⟩
  ·exact ⟨e, .inr rfl, h⟩
theorem putP_snoc {m : ModS} {t : TblS} {i : Nat} {P : List EvS} {e : EvS} : PutP m t i (P ++ [e]) ↔ PutP m t i P ∨ t.kind = 3 ∧ ∃ u, updE m e i = some u ∧ u.1 = 0 := by
 unfold PutP
 simp only [List.mem_append, List.mem_singleton]
 constructor
 ·rintro ⟨hk, d, hd|rfl, h⟩
  ·exact .inl ⟨hk, d, hd, h⟩
  ·exact .inr ⟨hk, h⟩
 ·rintro (⟨hk, d, hd, h⟩|⟨hk, h⟩)
  ·exact ⟨hk, d, .inl hd, h⟩
  ·exact ⟨hk, e, .inr rfl, h⟩
theorem liv_snoc {m : ModS} {t : TblS} {i : Nat} {P : List EvS} {e : EvS} (hn : Nxt P e) {x : MkS} :
  Liv m t i (P ++ [e]) x ↔ (Liv m t i P x ∧ ∀ u, updE m e i = some u → u.1 = kK t.kind → ¬ HasC e.past x.rep x.num) ∨ ∃ u, updE m e i = some u ∧ u.1 = bK t.kind ∧ x = mkE t e u := by
 constructor
 ·rintro ⟨d, hd, u, h1, h2, h3, h4⟩
  rcases List.mem_append.1 hd with hd|hd
  ·refine .inl ⟨⟨d, hd, u, h1, h2, h3, fun d' hd' => h4 d' (List.mem_append.2 (.inl hd'))⟩, fun w hw hk => ?_⟩
   rw [h3];exact h4 e (by simp) w hw hk
  ·rw [List.mem_singleton.1 hd] at h1 h3
   exact .inr ⟨u, h1, h2, h3⟩
 ·rintro (⟨⟨d, hd, u, h1, h2, h3, h4⟩, h5⟩|⟨u, h1, h2, h3⟩)
  ·refine ⟨d, List.mem_append.2 (.inl hd), u, h1, h2, h3, fun d' hd' w hw hk => ?_⟩
   rcases List.mem_append.1 hd' with hd' | hd'
   ·exact h4 d' hd' w hw hk
   ·rw [List.mem_singleton.1 hd'] at hw ⊢
    have := h5 w hw hk
    rw [h3] at this;exact this
  ·refine ⟨e, by simp, u, h1, h2, h3, fun d' hd' w hw hk => ?_⟩
   rcases List.mem_append.1 hd' with hd' | hd'
   ·exact hn.past d' hd'
   ·rw [List.mem_singleton.1 hd'];exact hn.self
theorem ins_lt {l : List MkS} {x : MkS} (hs : l.Pairwise LtK) (hn : ¬ HasNm l x) : (insK l x).Pairwise LtK ∧ ∀ y, y ∈ insK l x ↔ y ∈ l ∨ y = x := by
 have hsK : SrtK l := hs.imp fun h => LtK_asymm _ _ h
 have hm := hsK.mono x
 have hlt : ∀ y ∈ l, LtK x y ∨ LtK y x := fun y hy => by
  have h : ¬ Nm y x := fun h => hn ⟨y, hy, h⟩
  unfold Nm at h;unfold LtK;omega
 have h1 : ∀ y ∈ l.take (posK l x), LtK y x := fun y hy => by
  obtain ⟨j, hj⟩ := List.getElem?_of_mem hy
  have hjl : j < posK l x := by have := (List.getElem?_eq_some_iff.1 hj).1;simp at this;omega
  rw [List.getElem?_take, if_pos hjl] at hj
  by_cases h9 : LtK y x
  ·exact h9
  ·have : idxN (fun y => decide (¬ LtK y x)) l ≤ j := by
    rcases Nat.lt_or_ge j (idxN (fun y => decide (¬ LtK y x)) l) with hlt9|h
    ·exfalso
     have hle := idxN_le (fun y => decide (¬ LtK y x)) l
     by_cases hlen : idxN (fun y => decide (¬ LtK y x)) l < l.length
     ·obtain ⟨z, _, _, hz3⟩ := idxN_at hlen
      have := hz3 j y hlt9 hj
      simp at this;exact h9 this
     ·have hnone : ∀ z ∈ l, LtK z x := fun z hz => Classical.byContradiction fun h => hlen (idxN_lt.2 ⟨z, hz, by simpa using h⟩)
      exact h9 (hnone y (List.mem_of_getElem? hj))
    ·exact h
   unfold posK at hjl;omega
 have h2 : ∀ y ∈ l.drop (posK l x), LtK x y := fun y hy => by
  obtain ⟨j, hj⟩ := List.getElem?_of_mem hy
  rw [List.getElem?_drop] at hj
  have hym := List.mem_of_getElem? hj
  refine (hlt y hym).resolve_right fun h9 => ?_
  have hp : posK l x < l.length := by have := (List.getElem?_eq_some_iff.1 hj).1;omega
  obtain ⟨z, hz, hz2, _⟩ := idxN_at (p := fun y => decide (¬ LtK y x)) (l := l) hp
  have hz2 : ¬ LtK z x := by simpa using hz2
  exact hz2 (hm _ _ z y (Nat.le_add_right (posK l x) j) hz hj h9)
 have htd := List.take_append_drop (posK l x) l
 have hs' := hs
 rw [← htd] at hs'
 obtain ⟨s1, s2, s3⟩ := List.pairwise_append.1 hs'
 refine ⟨List.pairwise_append.2 ⟨s1, List.pairwise_cons.2 ⟨h2, s2⟩, fun a ha b hb => ?_⟩, fun y => ?_⟩
 ·rcases List.mem_cons.1 hb with rfl|hb
  ·exact h1 a ha
  ·exact s3 a ha b hb
 ·rw [insK, List.mem_append, List.mem_cons]
  constructor
  ·rintro (h|rfl|h)
   ·exact .inl (List.mem_of_mem_take h)
   ·exact .inr rfl
   ·exact .inl (List.mem_of_mem_drop h)
  ·rintro (h|rfl)
   ·rw [← htd, List.mem_append] at h
    exact h.elim .inl fun h => .inr (.inr h)
   ·exact .inr (.inl rfl)
end Go.Proofs.YtmllihbhphnolaaGreat
namespace Go.Proofs.YtmllihbhphnolaaGreat
open Go Go.CF
set_option maxRecDepth 20000
theorem cmp2_neg {a b : MkS} : cmp2 a b < 0 ↔ a.time < b.time ∨ a.time = b.time ∧ a.rep < b.rep := by
 unfold cmp2 orI cmpI
 by_cases h1 : a.time < b.time
 ·simp [h1]
 by_cases h2 : b.time < a.time
 ·simp [h1, h2];omega
 have h3 : a.time = b.time := by omega
 by_cases h4 : a.rep < b.rep
 ·simp [h3, h4]
 by_cases h5 : b.rep < a.rep
 ·simp [h3, h4, h5]
 have h6 : a.rep = b.rep := by omega
 simp [h3, h6]
def Kd (t : TblS) : Prop := t.kind = 2 ∨ t.kind = 3 ∨ t.kind = 4 ∨ t.kind = 5
theorem cell_step {m : ModS} {t : TblS} {i : Nat} {P : List EvS} {g : MgS} {e : EvS} (hk : Kd t) (h : Kn m t i P g) (hl : g.marks.length < 1024) (hn : Nxt P e) :
  ∃ g', cellF e t (updE m e i) g = (0, g') ∧ Kn m t i (P ++ [e]) g' ∧ g'.marks.length ≤ g.marks.length + 1 := by
 cases hu : updE m e i with
 | none =>
  refine ⟨g, rfl, ⟨?_, h.drop, h.srt, fun k4 => ?_, fun k4 x => ?_⟩, by omega⟩
  ·rw [putP_snoc, hu];simp [h.put]
  ·have he : ∀ x, Asg m t i (P ++ [e]) x ↔ Asg m t i P x := fun x => by rw [asg_snoc, hu];simp
   rcases h.four k4 with ⟨h1, h2⟩|⟨x, h1, h2, h3⟩
   ·exact .inl ⟨h1, fun x hx => h2 x ((he x).1 hx)⟩
   ·exact .inr ⟨x, h1, (he x).2 h2, fun y hy => h3 y ((he y).1 hy)⟩
  ·rw [liv_snoc hn, hu];simp [h.liv k4]
 | some u =>
  have hno : ¬ HasNm g.marks (mkE t e u) := fun ⟨x, hx, hxn⟩ => by
   obtain ⟨p, hp, w, _, _, rfl⟩ := h.mem hx
   exact hn.nm p hp hxn
  have hadd : addF g.marks (mkE t e u) = (0, insK g.marks (mkE t e u)) := by rw [addF, if_neg hno, if_neg (by omega)]
  have hil : ∀ (l : List MkS) x, (insK l x).length = l.length + 1 := fun l x => by
   have := posK_le l x
   simp [insK];omega
  obtain ⟨i1, i2⟩ := ins_lt h.srt hno
  have hfl : ∀ c, (fgK c g.marks).length ≤ g.marks.length := fun c => List.length_filter_le _ _
  have hfm : ∀ c x, x ∈ fgK c g.marks ↔ x ∈ g.marks ∧ ¬ HasC c x.rep x.num := fun c x => by simp [fgK, List.mem_filter]
  have hput : t.kind ≠ 3 → g.put = false := fun h3 => by
   have := h.put
   cases hp : g.put
   ·rfl
   ·exact absurd (this.1 hp).1 h3
  have hmk : mkE t e u = ⟨e.rep, e.num, e.time, if isReg t.kind then u.2.2 else 0⟩ := rfl
  have hlv : ∀ x, Liv m t i (P ++ [e]) x ↔ (Liv m t i P x ∧ (u.1 = kK t.kind → ¬ HasC e.past x.rep x.num)) ∨ (u.1 = bK t.kind ∧ x = mkE t e u) := fun x => by
   rw [liv_snoc hn, hu];simp
  have hpt : PutP m t i (P ++ [e]) ↔ PutP m t i P ∨ t.kind = 3 ∧ u.1 = 0 := by rw [putP_snoc, hu];simp
  have hsame : cellF e t (some u) g = (0, g) → (t.kind ≠ 4 → u.1 ≠ bK t.kind ∧ u.1 ≠ kK t.kind) → (t.kind = 4 → u.1 ≠ 2) → (t.kind = 3 → u.1 ≠ 0) → ∃ g', cellF e t (some u) g = (0, g') ∧ Kn m t i (P ++ [e]) g' ∧ g'.marks.length ≤ g.marks.length + 1 := fun h1 h2 h3 h4 => by
   refine ⟨g, h1, ⟨?_, h.drop, h.srt, fun k4 => ?_, fun k4 x => ?_⟩, by omega⟩
   ·rw [hpt, h.put];exact ⟨.inl, fun h => h.elim id fun h => absurd h.2 (h4 h.1)⟩
   ·have hb : bK t.kind = 2 := by rw [k4];rfl
    have he : ∀ x, Asg m t i (P ++ [e]) x ↔ Asg m t i P x := fun x => by
     rw [asg_snoc, hu]
     refine ⟨fun h => h.elim id fun ⟨w, hw, hw2, _⟩ => ?_, .inl⟩
     cases hw
     exact absurd (hw2.trans hb) (h3 k4)
    rcases h.four k4 with ⟨h1, h2⟩|⟨x, h1, h2, h3⟩
    ·exact .inl ⟨h1, fun x hx => h2 x ((he x).1 hx)⟩
    ·exact .inr ⟨x, h1, (he x).2 h2, fun y hy => h3 y ((he y).1 hy)⟩
   ·rw [hlv, h.liv k4]
    exact ⟨fun h9 => .inl ⟨h9, fun h => absurd h (h2 k4).2⟩, fun h9 => h9.elim (·.1) fun h => absurd h.1 (h2 k4).1⟩
  rcases hk with k|k|k|k
  ·have nb : bK t.kind = 0 := by rw [k];rfl
   have nk : kK t.kind = 1 := by rw [k];rfl
   by_cases u0 : u.1 = 0
   ·refine ⟨⟨g.put, g.drop, insK g.marks (mkE t e u)⟩, ?_, ⟨?_, h.drop, i1, fun k4 => by omega, fun _ x => ?_⟩, by simp [hil]⟩
    ·simp only [cellF, k, u0, true_and, true_or, if_true]
     rw [← k, ← hmk, hadd]
    ·rw [hpt, h.put];exact ⟨.inl, fun h => h.elim id fun h => by omega⟩
    ·rw [hlv]
     show x ∈ insK g.marks (mkE t e u) ↔ _
     rw [i2, h.liv (by omega)]
     exact ⟨fun h9 => h9.elim (fun h9 => .inl ⟨h9, fun h => by omega⟩) fun h9 => .inr ⟨by omega, h9⟩, fun h9 => h9.elim (fun h9 => .inl h9.1) fun h9 => .inr h9.2⟩
   by_cases u1 : u.1 = 1
   ·refine ⟨⟨false, g.drop, fgK e.past g.marks⟩, ?_, ⟨?_, h.drop, h.srt.filter _, fun k4 => by omega, fun _ x => ?_⟩, by simp only;have := hfl e.past;omega⟩
    ·simp [cellF, k, u1]
    ·rw [hpt, ← h.put, hput (by omega)]
     simp only [Bool.false_eq_true, false_or, false_iff]
     omega
    ·rw [hlv]
     show x ∈ fgK e.past g.marks ↔ _
     rw [hfm, h.liv (by omega)]
     exact ⟨fun h9 => .inl ⟨h9.1, fun _ => h9.2⟩, fun h9 => h9.elim (fun h9 => ⟨h9.1, h9.2 (by omega)⟩) fun h9 => by omega⟩
   ·exact hsame (by simp [cellF, k, u0, u1]) (fun _ => ⟨by omega, by omega⟩) (fun h => by omega) (fun h => by omega)
  ·have nb : bK t.kind = 1 := by rw [k];rfl
   have nk : kK t.kind = 0 := by rw [k];rfl
   by_cases u1 : u.1 = 1
   ·refine ⟨⟨g.put, g.drop, insK g.marks (mkE t e u)⟩, ?_, ⟨?_, h.drop, i1, fun k4 => by omega, fun _ x => ?_⟩, by simp [hil]⟩
    ·simp only [cellF, k, u1, true_and, or_true, if_true]
     rw [← k, ← hmk, hadd]
    ·rw [hpt, h.put];exact ⟨.inl, fun h => h.elim id fun h => by omega⟩
    ·rw [hlv]
     show x ∈ insK g.marks (mkE t e u) ↔ _
     rw [i2, h.liv (by omega)]
     exact ⟨fun h9 => h9.elim (fun h9 => .inl ⟨h9, fun h => by omega⟩) fun h9 => .inr ⟨by omega, h9⟩, fun h9 => h9.elim (fun h9 => .inl h9.1) fun h9 => .inr h9.2⟩
   by_cases u0 : u.1 = 0
   ·refine ⟨⟨true, false, fgK e.past g.marks⟩, ?_, ⟨?_, rfl, h.srt.filter _, fun k4 => by omega, fun _ x => ?_⟩, by simp only;have := hfl e.past;omega⟩
    ·simp [cellF, k, u0]
    ·rw [hpt];simp [k, u0]
    ·rw [hlv]
     show x ∈ fgK e.past g.marks ↔ _
     rw [hfm, h.liv (by omega)]
     exact ⟨fun h9 => .inl ⟨h9.1, fun _ => h9.2⟩, fun h9 => h9.elim (fun h9 => ⟨h9.1, h9.2 (by omega)⟩) fun h9 => by omega⟩
   ·exact hsame (by simp [cellF, k, u0, u1]) (fun _ => ⟨by omega, by omega⟩) (fun h => by omega) (fun _ => u0)
  ·have nb : bK t.kind = 2 := by rw [k];rfl
   by_cases u2 : u.1 = 2
   ·have hc : ∀ q, lastF g.marks (mkE t e u) = (0, q) → cellF e t (some u) g = (0, ⟨g.put, g.drop, q⟩) := fun q hq => by
     simp only [cellF, k, u2]
     rw [← k, ← hmk, hq];simp [k]
    have hx : ∀ x, Asg m t i (P ++ [e]) x ↔ Asg m t i P x ∨ x = mkE t e u := fun x => by rw [asg_snoc, hu];simp [nb, u2]
    have hpp : g.put = true ↔ PutP m t i (P ++ [e]) := by rw [hpt, h.put];exact ⟨.inl, fun h => h.elim id fun h => by omega⟩
    rcases h.four k with ⟨h1, h2⟩|⟨x, h1, h2, h3⟩
    ·refine ⟨⟨g.put, g.drop, [mkE t e u]⟩, hc _ ?_, ⟨hpp, h.drop, by simp, fun _ => .inr ⟨_, rfl, (hx _).2 (.inr rfl), fun y hy => ?_⟩, fun h => absurd k h⟩, by simp⟩
     ·rw [h1] at hadd ⊢
      rw [lastF, hadd]
      simp [insK, posK, idxN]
     ·rcases (hx y).1 hy with hy|rfl
      ·exact absurd hy (h2 y)
      ·exact fun h => LtK_asymm _ _ h h
    ·by_cases hc2 : cmp2 x (mkE t e u) < 0
     ·have hlt : LtK x (mkE t e u) := by have := cmp2_neg.1 hc2;unfold LtK;omega
      refine ⟨⟨g.put, g.drop, [mkE t e u]⟩, hc _ (by rw [h1, lastF, if_pos hc2]), ⟨hpp, h.drop, by simp, fun _ => .inr ⟨_, rfl, (hx _).2 (.inr rfl), fun y hy h9 => ?_⟩, fun h => absurd k h⟩, by simp⟩
      rcases (hx y).1 hy with hy|rfl
      ·exact h3 y hy (hlt.trans h9)
      ·exact LtK_asymm _ _ h9 h9
     ·refine ⟨⟨g.put, g.drop, [x]⟩, hc _ (by rw [h1, lastF, if_neg hc2]), ⟨hpp, h.drop, by simp, fun _ => .inr ⟨x, rfl, (hx _).2 (.inl h2), fun y hy h9 => ?_⟩, fun h => absurd k h⟩, by simp⟩
      rcases (hx y).1 hy with hy|rfl
      ·exact h3 y hy h9
      ·obtain ⟨p, hp, w, _, _, rfl⟩ := h2
       have a1 := hn.tm p hp
       rw [cmp2_neg] at hc2
       unfold LtK at h9
       simp only [mkE] at hc2 h9
       omega
   ·exact hsame (by simp [cellF, k, u2]) (fun h => absurd k h) (fun _ => u2) (fun h => by omega)
  ·have nb : bK t.kind = 2 := by rw [k];rfl
   have nk : kK t.kind = 2 := by rw [k];rfl
   by_cases u2 : u.1 = 2
   ·have hno2 : ¬ HasNm (fgK e.past g.marks) (mkE t e u) := fun ⟨x, hx, hxn⟩ => hno ⟨x, ((hfm _ _).1 hx).1, hxn⟩
    have hfl2 := hfl e.past
    have hadd2 : addF (fgK e.past g.marks) (mkE t e u) = (0, insK (fgK e.past g.marks) (mkE t e u)) := by rw [addF, if_neg hno2, if_neg (by omega)]
    obtain ⟨j1, j2⟩ := ins_lt (l := fgK e.past g.marks) (h.srt.filter _) hno2
    refine ⟨⟨g.put, g.drop, insK (fgK e.past g.marks) (mkE t e u)⟩, ?_, ⟨?_, h.drop, j1, fun k4 => by omega, fun _ x => ?_⟩, by simp only [hil];omega⟩
    ·simp only [cellF, k, u2]
     rw [← k, ← hmk, hadd2];simp [k]
    ·rw [hpt, h.put];exact ⟨.inl, fun h => h.elim id fun h => by omega⟩
    ·rw [hlv]
     show x ∈ insK (fgK e.past g.marks) (mkE t e u) ↔ _
     rw [show x ∈ insK (fgK e.past g.marks) (mkE t e u) ↔ x ∈ fgK e.past g.marks ∨ x = mkE t e u from j2 x, hfm, h.liv (by omega)]
     exact ⟨fun h9 => h9.elim (fun h9 => .inl ⟨h9.1, fun _ => h9.2⟩) fun h9 => .inr ⟨by omega, h9⟩, fun h9 => h9.elim (fun h9 => .inl ⟨h9.1, h9.2 (by omega)⟩) fun h9 => .inr h9.2⟩
   ·exact hsame (by simp [cellF, k, u2]) (fun _ => ⟨by omega, by omega⟩) (fun h => by omega) (fun h => by omega)
end Go.Proofs.YtmllihbhphnolaaGreat
namespace Go.Proofs.YtmllihbhphnolaaGreat
open Go Go.CF
set_option maxRecDepth 20000
noncomputable def addS (x : MkS) (p : List MkS × Bool) (y : MkS) : List MkS × Bool := if p.2 = false ∧ LtK x y then (p.1 ++ [x] ++ [y], true) else (p.1 ++ [y], p.2)
noncomputable def addP (l : List MkS) (x : MkS) : List MkS × Bool := l.foldl (addS x) ([], false)
noncomputable def addL (l : List MkS) (x : MkS) : List MkS := if (addP l x).2 = true then (addP l x).1 else (addP l x).1 ++ [x]
theorem addP_succ {l : List MkS} {x y : MkS} {i : Nat} (hy : l[i]? = some y) : addP (l.take (i + 1)) x = addS x (addP (l.take i) x) y := by
 rw [List.take_add_one, hy, addP, List.foldl_append];rfl
theorem addP_app (l : List MkS) (x y : MkS) : addP (l ++ [y]) x = addS x (addP l x) y := by rw [addP, List.foldl_append];rfl
theorem addP_len (x : MkS) (l : List MkS) : (addP l x).1.length ≤ l.length + 1 ∧ ((addP l x).2 = false → (addP l x).1.length ≤ l.length) := by
 have key : ∀ l : List MkS, (addP l.reverse x).1.length ≤ l.length + 1 ∧ ((addP l.reverse x).2 = false → (addP l.reverse x).1.length ≤ l.length) := by
  intro l
  induction l with
  | nil => simp [addP]
  | cons y l ih =>
   rw [List.reverse_cons, addP_app, addS]
   split
   ·rename_i h
    have := ih.2 h.1
    simp;omega
   ·have := ih.1
    refine ⟨by simp;omega, fun h => ?_⟩
    have := ih.2 h
    simp;omega
 have := key l.reverse
 simpa using this
theorem addL_len (l : List MkS) (x : MkS) : (addL l x).length ≤ l.length + 1 := by
 have := addP_len x l
 unfold addL
 split
 ·exact this.1
 ·rename_i h
  have := this.2 (by simpa using h)
  simp;omega
theorem addL_sk {l : List MkS} {x : MkS} (hs : l.Pairwise LtK) (hn : ¬ HasNm l x) : (addL l x).Pairwise LtK ∧ ∀ y, y ∈ addL l x ↔ y ∈ l ∨ y = x := by
 have ht : ∀ y ∈ l, LtK x y ∨ LtK y x := fun y hy => by
  have h : ¬ Nm y x := fun h => hn ⟨y, hy, h⟩
  unfold Nm at h;unfold LtK;omega
 have key : ∀ i, i ≤ l.length → ((addP (l.take i) x).2 = false ∧ (addP (l.take i) x).1 = l.take i ∧ (∀ y ∈ l.take i, ¬ LtK x y) ∨
   (addP (l.take i) x).2 = true ∧ (addP (l.take i) x).1.Pairwise LtK ∧ (∀ y, y ∈ (addP (l.take i) x).1 ↔ y ∈ l.take i ∨ y = x) ∧ ∃ y ∈ l.take i, LtK x y) := by
  intro i
  induction i with
  | zero => intro _;exact .inl ⟨rfl, rfl, by simp⟩
  | succ i ih =>
   intro hi
   obtain ⟨y, hy⟩ := get_of (l := l) (i := i) (by omega)
   have htk : l.take (i + 1) = l.take i ++ [y] := by rw [List.take_add_one, hy];rfl
   have hlt : ∀ z ∈ l.take i, LtK z y := fun z hz => by
    obtain ⟨j, hj⟩ := List.getElem?_of_mem hz
    have hjl : j < i := by have := (List.getElem?_eq_some_iff.1 hj).1;simp at this;omega
    rw [List.getElem?_take, if_pos hjl] at hj
    obtain ⟨p1, rfl⟩ := List.getElem?_eq_some_iff.1 hj
    obtain ⟨q1, rfl⟩ := List.getElem?_eq_some_iff.1 hy
    exact List.pairwise_iff_getElem.1 hs j i p1 q1 hjl
   rw [addP_succ hy, addS]
   rcases ih (by omega) with ⟨g1, g2, g3⟩|⟨g1, g2, g3, g4⟩
   ·by_cases hxy : LtK x y
    ·right
     rw [if_pos ⟨g1, hxy⟩, g2, htk]
     have hp : (l.take i).Pairwise LtK := hs.sublist (List.take_sublist i l)
     have hzx : ∀ z ∈ l.take i, LtK z x := fun z hz => (ht z (List.mem_of_mem_take hz)).resolve_left (g3 z hz)
     refine ⟨rfl, ?_, fun z => ?_, y, by simp, hxy⟩
     rotate_left
     ·simp only [List.mem_append, List.mem_singleton]
      exact ⟨fun h => h.elim (fun h => h.elim (fun h => .inl (.inl h)) .inr) (fun h => .inl (.inr h)), fun h => h.elim (fun h => h.elim (fun h => .inl (.inl h)) .inr) (fun h => .inl (.inr h))⟩
     rw [List.append_assoc]
     refine List.pairwise_append.2 ⟨hp, by simp [hxy], fun z hz w hw => ?_⟩
     simp at hw
     rcases hw with rfl|rfl
     ·exact hzx z hz
     ·exact hlt z hz
    ·left
     rw [if_neg (fun h => hxy h.2), g2, htk]
     refine ⟨g1, rfl, fun z hz => ?_⟩
     rcases List.mem_append.1 hz with h|h
     ·exact g3 z h
     ·rw [List.mem_singleton.1 h];exact hxy
   ·right
    rw [if_neg (fun h => by rw [g1] at h;cases h.1), htk]
    obtain ⟨w, hw, hxw⟩ := g4
    refine ⟨g1, ?_, fun z => ?_, w, List.mem_append.2 (.inl hw), hxw⟩
    ·refine List.pairwise_append.2 ⟨g2, by simp, fun z hz u hu => ?_⟩
     have hu : u = y := by simpa using hu
     subst hu
     rcases (g3 z).1 hz with h|rfl
     ·exact hlt z h
     ·have := hlt w hw;unfold LtK at *;omega
    ·simp only [List.mem_append, List.mem_singleton, g3]
     constructor
     ·rintro ((h|h)|h)
      ·exact .inl (.inl h)
      ·exact .inr h
      ·exact .inl (.inr h)
     ·rintro ((h|h)|h)
      ·exact .inl (.inl h)
      ·exact .inr h
      ·exact .inl (.inr h)
 have := key l.length (Nat.le_refl _)
 rw [List.take_length] at this
 unfold addL
 rcases this with ⟨g1, g2, g3⟩|⟨g1, g2, g3, g4⟩
 ·rw [g1, if_neg (by simp), g2]
  refine ⟨List.pairwise_append.2 ⟨hs, by simp, fun z hz u hu => ?_⟩, fun y => by simp⟩
  have hu : u = x := by simpa using hu
  subst hu
  exact (ht z hz).resolve_left (g3 z hz)
 ·rw [if_pos g1]
  exact ⟨g2, g3⟩
set_option maxHeartbeats 4000000 in
theorem add34_p (l : List MkS) (x : MkS) (hn : ¬ HasNm l x) (hl : l.length ≤ 100000) : CallP Tryz.prog 279 [mks l, mA x] (.tup [mks (addL l x), bl false]) := by
 have hln := addL_len l x
 refine CallA.fzt (T := 125) (by omega) ?_
 refine CallA.of pg ord279 Tryz.func279 rfl Tryz.ntmps279 Tryz.results279 rfl fun h0 G0 O0 => ?_
 repeat' (first|refine Sp.h ?_|refine Lk.r rfl ?_|refine Rf.mk rfl ?_|(refine All.mk ?_;intro _)|(apply Fk.r;(focus (repeat (first|exact FillA.nil|(apply FillA.agg;(focus rfl);(focus rfl);(focus (repeat (first|exact SetAs.z|(apply SetAs.c;(focus (repeat first|assumption|constructor)))))))|(apply FillA.one;(focus rfl);(focus infer_instance);(focus (repeat first|assumption|constructor)))))))|refine Rf.mk ⟨rfl, rfl, rfl⟩ ?_|fail)
 rename_i b3 v
 apply CA.retype (m := ([] : List MkS)) (g := mkC)
 focus (repeat constructor)
 focus rfl
 refine CA.loop (fun q : Nat × Value × List MkS × Bool => ⟨[(0, mks l), (3, pm b3), (6, .ow q.2.1), (7, bl q.2.2.2), (8, it q.1)], [blkR b3 125 (mkC x), arrR q.2.1 125 4 q.2.2.1 mkC]⟩)
  (fun q => q.1 ≤ l.length ∧ (q.2.2.1, q.2.2.2) = addP (l.take q.1) x) (fun q => l.length - q.1) (0, v, [], false) ⟨by repeat first|trivial|refine ⟨rfl,?_⟩,by repeat first|exact .nil|refine .cons (by repeat constructor) ?_⟩ ⟨Nat.zero_le _, rfl⟩ ?_
 rintro ⟨i, w, out, done⟩ ⟨hi, hq⟩
 simp only at hi hq
 simp only
 have hlen := addP_len x (l.take i)
 rw [← hq, List.length_take] at hlen
 simp only at hlen
 by_cases hin : i < l.length
 ·obtain ⟨y, hy⟩ := get_of hin
  have hno : ¬ (y.rep = x.rep ∧ y.num = x.num) := fun h => hn ⟨y, List.mem_of_getElem? hy, h⟩
  have hsu := addP_succ (x := x) hy
  rw [← hq, addS] at hsu
  simp only at hsu
  have h12 : y.rep ≠ x.rep ∨ y.num ≠ x.num := by omega
  by_cases hd : done = false ∧ LtK x y
  ·rw [if_pos hd] at hsu
   obtain ⟨hd1, hd2⟩ := hd
   subst hd1
   by_cases hr : y.rep = x.rep
   ·have hnn : y.num ≠ x.num := h12.resolve_left (fun h => h hr)
    repeat' (first|refine Sp.h ?_|refine Lk.r rfl ?_|refine Rf.mk rfl ?_|(apply Bd.t;(focus first|assumption|omega|rfl))|(apply Bd.f;(focus first|assumption|omega|exact Bool.false_ne_true))|refine OpK.r rfl ?_|(apply Om.mk;(focus first|omega|(simp <;> omega)))|(refine Im.mk ?_;intro _)|(refine All.mk ?_;intro _)|(apply TkA.r;(focus repeat constructor))|(apply TkB.r;(focus repeat constructor))|(apply Ix.q;(focus exact rfl);(focus assumption))|refine Ce.r ?_|refine Ch.l ⟨rfl, rfl⟩ ?_|(apply Fk.r;(focus (repeat (first|exact FillA.nil|(apply FillA.agg;(focus rfl);(focus rfl);(focus (repeat (first|exact SetAs.z|(apply SetAs.c;(focus (repeat first|assumption|constructor)))))))|(apply FillA.one;(focus rfl);(focus infer_instance);(focus (repeat first|assumption|constructor)))))))|refine Rf.mk ⟨rfl, rfl⟩ ?_|refine Rf.mk ⟨rfl, rfl, rfl⟩ ?_|(apply Mp.lit;(focus repeat (first|exact MpL.nil|(apply MpL.cons;(focus rfl))|(apply MpL.inv;(focus repeat constructor);(focus infer_instance)))))|(apply CA.draw;(focus rfl);(focus kernel_rfl);(focus kernel_rfl);(focus repeat' constructor);(focus rfl))|(apply Ov.n;(focus first|omega|(simp <;> omega)))|(apply Cl.p (less34_p _ _);(focus repeat' (first|exact Lend.nil|apply Lend.keep|fail))))
    all_goals exact PA.lp (i + 1, _, out ++ [x] ++ [y], true) ⟨by repeat first|trivial|refine ⟨rfl,?_⟩,by repeat first|exact .nil|refine .cons (by repeat constructor) ?_⟩ ⟨⟨hin, hsu.symm⟩, by simp only;omega⟩
   ·repeat' (first|refine Sp.h ?_|refine Lk.r rfl ?_|refine Rf.mk rfl ?_|(apply Bd.t;(focus first|assumption|omega|rfl))|(apply Bd.f;(focus first|assumption|omega|exact Bool.false_ne_true))|refine OpK.r rfl ?_|(apply Om.mk;(focus first|omega|(simp <;> omega)))|(refine Im.mk ?_;intro _)|(refine All.mk ?_;intro _)|(apply TkA.r;(focus repeat constructor))|(apply TkB.r;(focus repeat constructor))|(apply Ix.q;(focus exact rfl);(focus assumption))|refine Ce.r ?_|refine Ch.l ⟨rfl, rfl⟩ ?_|(apply Fk.r;(focus (repeat (first|exact FillA.nil|(apply FillA.agg;(focus rfl);(focus rfl);(focus (repeat (first|exact SetAs.z|(apply SetAs.c;(focus (repeat first|assumption|constructor)))))))|(apply FillA.one;(focus rfl);(focus infer_instance);(focus (repeat first|assumption|constructor)))))))|refine Rf.mk ⟨rfl, rfl⟩ ?_|refine Rf.mk ⟨rfl, rfl, rfl⟩ ?_|(apply Mp.lit;(focus repeat (first|exact MpL.nil|(apply MpL.cons;(focus rfl))|(apply MpL.inv;(focus repeat constructor);(focus infer_instance)))))|(apply CA.draw;(focus rfl);(focus kernel_rfl);(focus kernel_rfl);(focus repeat' constructor);(focus rfl))|(apply Ov.n;(focus first|omega|(simp <;> omega)))|(apply Cl.p (less34_p _ _);(focus repeat' (first|exact Lend.nil|apply Lend.keep|fail))))
    all_goals exact PA.lp (i + 1, _, out ++ [x] ++ [y], true) ⟨by repeat first|trivial|refine ⟨rfl,?_⟩,by repeat first|exact .nil|refine .cons (by repeat constructor) ?_⟩ ⟨⟨hin, hsu.symm⟩, by simp only;omega⟩
  ·rw [if_neg hd] at hsu
   cases done
   ·have hd2 : ¬ LtK x y := fun h => hd ⟨rfl, h⟩
    by_cases hr : y.rep = x.rep
    ·have hnn : y.num ≠ x.num := h12.resolve_left (fun h => h hr)
     repeat' (first|refine Sp.h ?_|refine Lk.r rfl ?_|refine Rf.mk rfl ?_|(apply Bd.t;(focus first|assumption|omega|rfl))|(apply Bd.f;(focus first|assumption|omega|exact Bool.false_ne_true))|refine OpK.r rfl ?_|(apply Om.mk;(focus first|omega|(simp <;> omega)))|(refine Im.mk ?_;intro _)|(refine All.mk ?_;intro _)|(apply TkA.r;(focus repeat constructor))|(apply TkB.r;(focus repeat constructor))|(apply Ix.q;(focus exact rfl);(focus assumption))|refine Ce.r ?_|refine Ch.l ⟨rfl, rfl⟩ ?_|(apply Fk.r;(focus (repeat (first|exact FillA.nil|(apply FillA.agg;(focus rfl);(focus rfl);(focus (repeat (first|exact SetAs.z|(apply SetAs.c;(focus (repeat first|assumption|constructor)))))))|(apply FillA.one;(focus rfl);(focus infer_instance);(focus (repeat first|assumption|constructor)))))))|refine Rf.mk ⟨rfl, rfl⟩ ?_|refine Rf.mk ⟨rfl, rfl, rfl⟩ ?_|(apply Mp.lit;(focus repeat (first|exact MpL.nil|(apply MpL.cons;(focus rfl))|(apply MpL.inv;(focus repeat constructor);(focus infer_instance)))))|(apply CA.draw;(focus rfl);(focus kernel_rfl);(focus kernel_rfl);(focus repeat' constructor);(focus rfl))|(apply Ov.n;(focus first|omega|(simp <;> omega)))|(apply Cl.p (less34_p _ _);(focus repeat' (first|exact Lend.nil|apply Lend.keep|fail))))
     all_goals exact PA.lp (i + 1, _, out ++ [y], false) ⟨by repeat first|trivial|refine ⟨rfl,?_⟩,by repeat first|exact .nil|refine .cons (by repeat constructor) ?_⟩ ⟨⟨hin, hsu.symm⟩, by simp only;omega⟩
    ·repeat' (first|refine Sp.h ?_|refine Lk.r rfl ?_|refine Rf.mk rfl ?_|(apply Bd.t;(focus first|assumption|omega|rfl))|(apply Bd.f;(focus first|assumption|omega|exact Bool.false_ne_true))|refine OpK.r rfl ?_|(apply Om.mk;(focus first|omega|(simp <;> omega)))|(refine Im.mk ?_;intro _)|(refine All.mk ?_;intro _)|(apply TkA.r;(focus repeat constructor))|(apply TkB.r;(focus repeat constructor))|(apply Ix.q;(focus exact rfl);(focus assumption))|refine Ce.r ?_|refine Ch.l ⟨rfl, rfl⟩ ?_|(apply Fk.r;(focus (repeat (first|exact FillA.nil|(apply FillA.agg;(focus rfl);(focus rfl);(focus (repeat (first|exact SetAs.z|(apply SetAs.c;(focus (repeat first|assumption|constructor)))))))|(apply FillA.one;(focus rfl);(focus infer_instance);(focus (repeat first|assumption|constructor)))))))|refine Rf.mk ⟨rfl, rfl⟩ ?_|refine Rf.mk ⟨rfl, rfl, rfl⟩ ?_|(apply Mp.lit;(focus repeat (first|exact MpL.nil|(apply MpL.cons;(focus rfl))|(apply MpL.inv;(focus repeat constructor);(focus infer_instance)))))|(apply CA.draw;(focus rfl);(focus kernel_rfl);(focus kernel_rfl);(focus repeat' constructor);(focus rfl))|(apply Ov.n;(focus first|omega|(simp <;> omega)))|(apply Cl.p (less34_p _ _);(focus repeat' (first|exact Lend.nil|apply Lend.keep|fail))))
     all_goals exact PA.lp (i + 1, _, out ++ [y], false) ⟨by repeat first|trivial|refine ⟨rfl,?_⟩,by repeat first|exact .nil|refine .cons (by repeat constructor) ?_⟩ ⟨⟨hin, hsu.symm⟩, by simp only;omega⟩
   ·by_cases hr : y.rep = x.rep
    ·have hnn : y.num ≠ x.num := h12.resolve_left (fun h => h hr)
     repeat' (first|refine Sp.h ?_|refine Lk.r rfl ?_|refine Rf.mk rfl ?_|(apply Bd.t;(focus first|assumption|omega|rfl))|(apply Bd.f;(focus first|assumption|omega|exact Bool.false_ne_true))|refine OpK.r rfl ?_|(apply Om.mk;(focus first|omega|(simp <;> omega)))|(refine Im.mk ?_;intro _)|(refine All.mk ?_;intro _)|(apply TkA.r;(focus repeat constructor))|(apply TkB.r;(focus repeat constructor))|(apply Ix.q;(focus exact rfl);(focus assumption))|refine Ce.r ?_|refine Ch.l ⟨rfl, rfl⟩ ?_|(apply Fk.r;(focus (repeat (first|exact FillA.nil|(apply FillA.agg;(focus rfl);(focus rfl);(focus (repeat (first|exact SetAs.z|(apply SetAs.c;(focus (repeat first|assumption|constructor)))))))|(apply FillA.one;(focus rfl);(focus infer_instance);(focus (repeat first|assumption|constructor)))))))|refine Rf.mk ⟨rfl, rfl⟩ ?_|refine Rf.mk ⟨rfl, rfl, rfl⟩ ?_|(apply Mp.lit;(focus repeat (first|exact MpL.nil|(apply MpL.cons;(focus rfl))|(apply MpL.inv;(focus repeat constructor);(focus infer_instance)))))|(apply CA.draw;(focus rfl);(focus kernel_rfl);(focus kernel_rfl);(focus repeat' constructor);(focus rfl))|(apply Ov.n;(focus first|omega|(simp <;> omega)))|(apply Cl.p (less34_p _ _);(focus repeat' (first|fail))))
     all_goals exact PA.lp (i + 1, _, out ++ [y], true) ⟨by repeat first|trivial|refine ⟨rfl,?_⟩,by repeat first|exact .nil|refine .cons (by repeat constructor) ?_⟩ ⟨⟨hin, hsu.symm⟩, by simp only;omega⟩
    ·repeat' (first|refine Sp.h ?_|refine Lk.r rfl ?_|refine Rf.mk rfl ?_|(apply Bd.t;(focus first|assumption|omega|rfl))|(apply Bd.f;(focus first|assumption|omega|exact Bool.false_ne_true))|refine OpK.r rfl ?_|(apply Om.mk;(focus first|omega|(simp <;> omega)))|(refine Im.mk ?_;intro _)|(refine All.mk ?_;intro _)|(apply TkA.r;(focus repeat constructor))|(apply TkB.r;(focus repeat constructor))|(apply Ix.q;(focus exact rfl);(focus assumption))|refine Ce.r ?_|refine Ch.l ⟨rfl, rfl⟩ ?_|(apply Fk.r;(focus (repeat (first|exact FillA.nil|(apply FillA.agg;(focus rfl);(focus rfl);(focus (repeat (first|exact SetAs.z|(apply SetAs.c;(focus (repeat first|assumption|constructor)))))))|(apply FillA.one;(focus rfl);(focus infer_instance);(focus (repeat first|assumption|constructor)))))))|refine Rf.mk ⟨rfl, rfl⟩ ?_|refine Rf.mk ⟨rfl, rfl, rfl⟩ ?_|(apply Mp.lit;(focus repeat (first|exact MpL.nil|(apply MpL.cons;(focus rfl))|(apply MpL.inv;(focus repeat constructor);(focus infer_instance)))))|(apply CA.draw;(focus rfl);(focus kernel_rfl);(focus kernel_rfl);(focus repeat' constructor);(focus rfl))|(apply Ov.n;(focus first|omega|(simp <;> omega)))|(apply Cl.p (less34_p _ _);(focus repeat' (first|fail))))
     all_goals exact PA.lp (i + 1, _, out ++ [y], true) ⟨by repeat first|trivial|refine ⟨rfl,?_⟩,by repeat first|exact .nil|refine .cons (by repeat constructor) ?_⟩ ⟨⟨hin, hsu.symm⟩, by simp only;omega⟩
 ·have hie : i = l.length := by omega
  subst hie
  rw [List.take_length] at hq
  cases done
  ·have he : addL l x = out ++ [x] := by rw [addL, ← hq];rfl
   rw [he]
   repeat' (first|refine Sp.h ?_|refine Lk.r rfl ?_|refine Rf.mk rfl ?_|(apply Bd.f;(focus first|assumption|omega|exact Bool.false_ne_true))|(apply Om.mk;(focus first|omega|(simp <;> omega)))|(refine Im.mk ?_;intro _)|(refine All.mk ?_;intro _)|(apply TkA.r;(focus repeat constructor))|(apply TkB.r;(focus repeat constructor))|refine Ce.r ?_|refine Ch.l ⟨rfl, rfl⟩ ?_|(apply Fk.r;(focus (repeat (first|exact FillA.nil|(apply FillA.agg;(focus rfl);(focus rfl);(focus (repeat (first|exact SetAs.z|(apply SetAs.c;(focus (repeat first|assumption|constructor)))))))|(apply FillA.one;(focus rfl);(focus infer_instance);(focus (repeat first|assumption|constructor)))))))|(apply Nm.r;focus repeat constructor)|refine Rf.mk ⟨rfl, rfl⟩ ?_|refine Rf.mk ⟨rfl, rfl, rfl⟩ ?_|(apply Mp.lit;(focus repeat (first|exact MpL.nil|(apply MpL.cons;(focus rfl))|(apply MpL.inv;(focus repeat constructor);(focus infer_instance)))))|fail)
   exact ⟨_, _, .tup (.same (.same (.nil (by (repeat first|exact .nil|refine .cons (by repeat constructor) ?_))))), _, rfl, rfl⟩
  ·have he : addL l x = out := by rw [addL, ← hq];rfl
   rw [he]
   repeat' (first|refine Sp.h ?_|refine Lk.r rfl ?_|refine Rf.mk rfl ?_|(apply Bd.t;(focus first|assumption|omega|rfl))|(apply Bd.f;(focus first|assumption|omega|exact Bool.false_ne_true))|(refine Im.mk ?_;intro _)|(apply Nm.r;focus repeat constructor)|fail)
   exact ⟨_, _, .tup (.same (.same (.nil (by (repeat first|exact .nil|refine .cons (by repeat constructor) ?_))))), _, rfl, rfl⟩
end Go.Proofs.YtmllihbhphnolaaGreat
namespace Go.Proofs.YtmllihbhphnolaaGreat
open Go Go.CF
set_option maxRecDepth 20000
def GoodK (l : List MkS) : Prop := l.Pairwise LtK ∧ l.Pairwise fun x y => ¬ Nm x y
end Go.Proofs.YtmllihbhphnolaaGreat
namespace Go.Proofs.YtmllihbhphnolaaGreat
open Go Go.CF
set_option maxRecDepth 20000
theorem ValG.good {t : TblS} {g : MgS} (h : ValG t g) : GoodK g.marks := by
 have h1 : g.marks.Pairwise fun x y => ¬ Nm x y := by
  rw [List.pairwise_iff_getElem]
  intro i j hi hj hij
  exact (h.2 j g.marks[j] hj (List.getElem?_eq_getElem hj)).2.1 i g.marks[i] hij (List.getElem?_eq_getElem hi)
 refine ⟨?_, h1⟩
 have h2 := h.srt
 rw [SrtK, List.pairwise_iff_getElem] at h2
 rw [List.pairwise_iff_getElem] at h1 ⊢
 intro i j hi hj hij
 have a1 := h1 i j hi hj hij
 have a2 := h2 i j hi hj hij
 unfold Nm at a1
 unfold LtK at a2 ⊢
 omega
end Go.Proofs.YtmllihbhphnolaaGreat
namespace Go.Proofs.YtmllihbhphnolaaGreat
open Go Go.CF
set_option maxRecDepth 20000
def isSt (k : Int) : Prop := k = 2 ∨ k = 3
def FitU (m : ModS) : Prop := ∀ a ∈ m.acts, ∀ u ∈ a.eff.updates, ∀ (i : Nat) t, u.2.1 = i → (mrgF m)[i]? = some t → (isSt t.kind ↔ u.1 = 0 ∨ u.1 = 1) ∧ (¬ isSt t.kind → t.lo ≤ u.2.2 ∧ u.2.2 ≤ t.hi)
structure KnL (m : ModS) (P : List EvS) (l : List MgS) : Prop where
 len : l.length = (mrgF m).length
 kn : ∀ (i : Nat) t g, (mrgF m)[i]? = some t → l[i]? = some g → Kn m t i P g ∧ g.marks.length ≤ P.length
theorem kd_of {m : ModS} (hm : LayOK m.sorts m.tables) {i : Nat} {t : TblS} (ht : (mrgF m)[i]? = some t) : Kd t := by
 have := kindM hm t (List.mem_of_getElem? ht)
 unfold Kd;omega
theorem updE_mem {m : ModS} {e : EvS} {i : Nat} {u : UpS} (h : updE m e i = some u) : ∃ a ∈ m.acts, u ∈ a.eff.updates ∧ u.2.1 = i := by
 unfold updE at h
 split at h
 ·have h1 := List.mem_of_find?_eq_some h
  have h2 := List.find?_some h
  have h2 : u.2.1 = (i : Int) := by simpa using h2
  rw [List.mem_reverse] at h1
  unfold usF at h1
  cases ha : m.acts[e.action.toNat]? with
  | none => rw [ha] at h1;cases h1
  | some a => rw [ha] at h1;exact ⟨a, List.mem_of_getElem? ha, h1, h2⟩
 ·cases h
theorem Kn.valG {m : ModS} {t : TblS} {i : Nat} {P : List EvS} {g : MgS} (hf : FitU m) (ht : (mrgF m)[i]? = some t) (hk : Kd t) (hu : UniqP P) (hP : ∀ e ∈ P, FormedE e) (h : Kn m t i P g) (hl : g.marks.length ≤ 1024) : ValG t g := by
 refine ⟨⟨fun h9 => ?_, fun h9 => ?_, fun h9 => ?_, hl⟩, fun j x hj hx => ⟨?_, fun q y hq hy hn => ?_, fun y hq hy h9 => ?_⟩⟩
 ·rw [h.drop] at h9;cases h9
 ·have := (h.put.1 h9.1).1
  have := h9.2
  unfold isReg at this;omega
 ·rcases h.four h9.1 with ⟨h1, _⟩|⟨x, h1, _⟩
  ·rw [h1] at h9;simp at h9
  ·rw [h1] at h9;simp at h9
 ·obtain ⟨e, he, u, h1, h2, rfl⟩ := h.mem (List.mem_of_getElem? hx)
  obtain ⟨f1, f2, ⟨y, f3, f4⟩, f5, f6, f7⟩ := hP e he
  have hlen := (List.getElem?_eq_some_iff.1 f3).1
  have := f1.1 y (List.mem_of_getElem? f3)
  have := f1.2
  unfold rngK at *
  unfold Btw at f6
  obtain ⟨a, ha, hua, hui⟩ := updE_mem h1
  have hfit := hf a ha u hua i t hui ht
  refine ⟨by simp only [mkE];omega, by simp only [mkE];omega, by simp only [mkE];omega, ?_⟩
  simp only [mkE, lowT, highT]
  by_cases hr : isReg t.kind
  ·rw [if_pos hr, if_pos hr, if_pos hr]
   exact hfit.2 (by unfold isReg at hr;unfold isSt;omega)
  ·rw [if_neg hr, if_neg hr, if_neg hr];omega
 ·have h1 := h.mem (List.mem_of_getElem? hx)
  have h2 := h.mem (List.mem_of_getElem? hy)
  have := asg_nm hu h2 h1 hn
  subst this
  obtain ⟨j1, rfl⟩ := List.getElem?_eq_some_iff.1 hx
  obtain ⟨q1, hq2⟩ := List.getElem?_eq_some_iff.1 hy
  have := List.pairwise_iff_getElem.1 h.srt q j q1 j1 hq
  rw [hq2] at this
  exact LtK_asymm _ _ this this
 ·obtain ⟨j1, rfl⟩ := List.getElem?_eq_some_iff.1 hx
  obtain ⟨q1, rfl⟩ := List.getElem?_eq_some_iff.1 hy
  exact LtK_asymm _ _ h9 (List.pairwise_iff_getElem.1 h.srt (j - 1) j q1 j1 (by omega))
theorem KnL.valL {m : ModS} {P : List EvS} {l : List MgS} (hm : LayOK m.sorts m.tables) (hf : FitU m) (hu : UniqP P) (hP : ∀ e ∈ P, FormedE e) (hl : P.length ≤ 1024) (h : KnL m P l) : ValL (mrgF m) l :=
 ⟨h.len.symm, fun i t g ht hg => (h.kn i t g ht hg).1.valG hf ht (kd_of hm ht) hu hP (by have := (h.kn i t g ht hg).2;omega)⟩
theorem KnL.nil (m : ModS) : KnL m [] (List.replicate (mrgF m).length mg0) := by
 refine ⟨by simp, fun i t g _ hg => ?_⟩
 have : g = mg0 := (List.mem_replicate.1 (List.mem_of_getElem? hg)).2
 subst this
 exact ⟨⟨by simp [mg0, PutP], rfl, .nil, fun _ => .inl ⟨rfl, fun x ⟨e, he, _⟩ => by cases he⟩, fun _ x => by simp [mg0, Liv]⟩, by simp [mg0]⟩
theorem apply_step {m : ModS} {P : List EvS} {l : List MgS} {e : EvS} (hm : LayOK m.sorts m.tables) (hv : ValL (mrgF m) l) (hl : P.length < 1024) (h : KnL m P l) (he : EvV m (e.past.length : Nat) e) (hn : Nxt P e) :
  ∃ l', applyF m l e = (0, l') ∧ KnL m (P ++ [e]) l' ∧ ∀ (i : Nat) t g, (mrgF m)[i]? = some t → l[i]? = some g → l'[i]? = some (cellF e t (updE m e i) g).2 := by
 have hstep : ∀ (i : Nat) t g, (mrgF m)[i]? = some t → l[i]? = some g → ∃ g', cellF e t (updE m e i) g = (0, g') ∧ Kn m t i (P ++ [e]) g' ∧ g'.marks.length ≤ g.marks.length + 1 := fun i t g ht hg =>
  cell_step (kd_of hm ht) (h.kn i t g ht hg).1 (by have := (h.kn i t g ht hg).2;omega) hn
 by_cases hk : e.kind = 0
 ·have hup : ∀ i : Nat, updE m e i = updF (usF m e) i := fun i => if_pos hk
  have hat : ∀ (i : Nat) t g, (mrgF m)[i]? = some t → l[i]? = some g → (cellsF (mrgF m) l (usF m e) e)[i]? = some (cellF e t (updE m e i) g) := fun i t g ht hg => by rw [hup];exact cellsF_at ht hg
  have hall : ∀ p ∈ cellsF (mrgF m) l (usF m e) e, p.1 = 0 := fun p hp => by
   obtain ⟨i, hi⟩ := List.getElem?_of_mem hp
   have hil := (List.getElem?_eq_some_iff.1 hi).1
   rw [cellsF_len] at hil
   obtain ⟨g, hg⟩ := get_of hil
   obtain ⟨t, ht⟩ := get_of (l := mrgF m) (i := i) (by rw [← h.len];exact hil)
   obtain ⟨g', h1, _⟩ := hstep i t g ht hg
   rw [hat i t g ht hg, h1] at hi
   cases hi;rfl
  refine ⟨(cellsF (mrgF m) l (usF m e) e).map (·.2), ?_, ⟨by rw [List.length_map, cellsF_len, h.len], fun i t g' ht hg' => ?_⟩, fun i t g ht hg => by rw [List.getElem?_map, hat i t g ht hg];rfl⟩
  ·rw [applyF, if_neg (fun h9 => h9 ⟨hv, he⟩), if_neg (fun h9 => h9 hk), gather_end (fun p hp => .inl (hall p hp)), if_neg]
   rintro ⟨p, hp, h8⟩
   rw [hall p hp] at h8;cases h8
  ·obtain ⟨g, hg⟩ := get_of (l := l) (i := i) (by rw [h.len];exact (List.getElem?_eq_some_iff.1 ht).1)
   obtain ⟨g2, h1, h2, h3⟩ := hstep i t g ht hg
   rw [List.getElem?_map, hat i t g ht hg, h1] at hg'
   cases hg'
   have := (h.kn i t g ht hg).2
   exact ⟨h2, by simp;omega⟩
 ·have hup : ∀ i : Nat, updE m e i = none := fun i => if_neg hk
  refine ⟨l, by rw [applyF, if_neg (fun h9 => h9 ⟨hv, he⟩), if_pos hk], ⟨h.len, fun i t g ht hg => ?_⟩, fun i t g ht hg => by rw [hup];exact hg⟩
  obtain ⟨g2, h1, h2, h3⟩ := hstep i t g ht hg
  rw [hup] at h1
  have e1 : g = g2 := congrArg Prod.snd h1
  subst e1
  have := (h.kn i t g ht hg).2
  exact ⟨h2, by simp;omega⟩
/-! ### Closed lists -/
theorem uniqP_of {l : List EvS} (h : Uniq l) : UniqP l := fun a ha b hb h1 h2 => h.eq ha hb (by rw [nm, nm, h1, h2])
theorem has_self {e : EvS} (h : FormedE e) : ¬ HasC e.past e.rep e.num := by
 obtain ⟨_, _, ⟨x, h1, h2⟩, _⟩ := h
 rintro ⟨_, _, _, y, h3, h4⟩
 rw [h1] at h3;cases h3;omega
theorem closed_past {l : List EvS} (h : ClosedE l) {e d : EvS} (hd : d ∈ l) (he : e ∈ l) (hh : HasC d.past e.rep e.num) : e.time < d.time ∧ Cont e.past d.past := by
 obtain ⟨h1, h2, h3, x, h4, h5⟩ := hh
 obtain ⟨y, hy, g1, g2, g3, g4⟩ := h.2.2.2 d hd e.rep.toNat x h4 e.num h3 h5
 have : y = e := uniqP_of h.2.1 y hy e he (by omega) g2
 subst this
 exact ⟨g4, g3⟩
theorem has_of_lt {l : List EvS} (h : ClosedE l) {e d : EvS} (hd : d ∈ l) (he : e ∈ l) (hr : e.rep = d.rep) (hn : e.num < d.num) : HasC d.past e.rep e.num := by
 obtain ⟨f1, f2, ⟨x, f3, f4⟩, _⟩ := (h.2.2.1 d hd).1
 obtain ⟨g1, g2, ⟨y, g3, g4⟩, _⟩ := (h.2.2.1 e he).1
 have := g1.1 y (List.mem_of_getElem? g3)
 unfold rngK at this
 exact ⟨f1, by omega, by omega, x, by rw [hr];exact f3, by omega⟩
end Go.Proofs.YtmllihbhphnolaaGreat
namespace Go.Proofs.YtmllihbhphnolaaGreat
open Go Go.CF
set_option maxRecDepth 20000
theorem zipC_at {op : Int → Int → Int} {a b : List Int} (h : a.length = b.length) {i : Nat} {z : Int} : (zipC op a b)[i]? = some z ↔ ∃ x y, a[i]? = some x ∧ b[i]? = some y ∧ z = op x y := by
 unfold zipC
 rw [List.getElem?_zipWith]
 constructor
 ·intro h9
  cases ha : a[i]? with
  | none => rw [ha] at h9;simp at h9
  | some x =>
   cases hb : b[i]? with
   | none => rw [ha, hb] at h9;simp at h9
   | some y => rw [ha, hb] at h9;simp at h9;exact ⟨x, y, rfl, rfl, h9.symm⟩
 ·rintro ⟨x, y, ha, hb, rfl⟩
  rw [ha, hb]
theorem zipC_val {op : Int → Int → Int} {a b : List Int} (ha : ValC a) (hb : ValC b) (h : a.length = b.length) (hop : ∀ x y, rngK x → rngK y → rngK (op x y)) : ValC (zipC op a b) := by
 refine ⟨fun z hz => ?_, ?_⟩
 ·obtain ⟨i, hi⟩ := List.getElem?_of_mem hz
  obtain ⟨x, y, h1, h2, rfl⟩ := (zipC_at h).1 hi
  exact hop x y (ha.1 x (List.mem_of_getElem? h1)) (hb.1 y (List.mem_of_getElem? h2))
 ·rw [zipC_len h];exact ha.2
theorem rng_max (x y : Int) (hx : rngK x) (hy : rngK y) : rngK (max x y) := by unfold rngK at *;omega
theorem joinC_val {a b : List Int} (ha : ValC a) (hb : ValC b) (h : a.length = b.length) : ValC (joinC a b) := zipC_val ha hb h rng_max
theorem joinC_len {a b : List Int} (h : a.length = b.length) : (joinC a b).length = a.length := zipC_len h
theorem clkE_val {n : Nat} (hn : 1 ≤ n ∧ n ≤ 5) {l : List EvS} (hl : ∀ e ∈ l, rngK e.num) : ValC (clkE n l) := by
 have key : ∀ (l : List EvS) (c : List Int), (∀ e ∈ l, rngK e.num) → (∀ x ∈ c, rngK x) → ∀ x ∈ l.foldl (fun c e => c.set e.rep.toNat (max (c[e.rep.toNat]?.getD 0) e.num)) c, rngK x := by
  intro l
  induction l with
  | nil => exact fun c _ h => h
  | cons e l ih =>
   intro c h1 h2
   rw [List.foldl_cons]
   refine ih _ (fun d hd => h1 d (List.mem_cons_of_mem _ hd)) fun x hx => ?_
   rcases List.mem_or_eq_of_mem_set hx with h|rfl
   ·exact h2 x h
   ·have h3 := h1 e (by simp)
    have h4 : rngK (c[e.rep.toNat]?.getD 0) := by
     cases hc : c[e.rep.toNat]? with
     | none => simp [rngK]
     | some y => exact h2 y (List.mem_of_getElem? hc)
    exact rng_max _ _ h4 h3
 refine ⟨key l _ hl fun x hx => ?_, by rw [clkE_len];omega⟩
 rw [(List.mem_replicate.1 hx).2];simp [rngK]
theorem formed_num {e : EvS} (h : FormedE e) : rngK e.num := by
 obtain ⟨f1, _, ⟨x, f3, f4⟩, f5, _⟩ := h
 have := f1.1 x (List.mem_of_getElem? f3)
 unfold rngK at *;omega
end Go.Proofs.YtmllihbhphnolaaGreat
namespace Go.Proofs.YtmllihbhphnolaaGreat
open Go Go.CF
set_option maxRecDepth 20000
def SuitE (m : ModS) (l : List EvS) : Prop := MOK m ∧ FewV l ∧ ClosedE l ∧ FitU m ∧ ∀ e ∈ l, EvV m (n0 l : Nat) e
end Go.Proofs.YtmllihbhphnolaaGreat
namespace Go.Proofs.YtmllihbhphnolaaGreat
open Go Go.CF
set_option maxRecDepth 20000
theorem uniqP_sub {l X : List EvS} (h : UniqP l) (hX : ∀ e ∈ X, e ∈ l) : UniqP X := fun a ha b hb => h a (hX a ha) b (hX b hb)
end Go.Proofs.YtmllihbhphnolaaGreat
namespace Go.Proofs.YtmllihbhphnolaaGreat
open Go Go.CF
set_option maxRecDepth 20000
/-! ### The clock of events -/
theorem clk_key {n : Nat} : ∀ (A : List EvS) (c : List Int), c.length = n → (∀ x ∈ c, 0 ≤ x) → (∀ a ∈ A, a.rep.toNat < n ∧ 0 ≤ a.num) → ∀ q, q < n →
  ∃ y, (A.foldl (fun c e => c.set e.rep.toNat (max (c[e.rep.toNat]?.getD 0) e.num)) c)[q]? = some y ∧ 0 ≤ y ∧ ∀ k, 1 ≤ k → (k ≤ y ↔ (∃ z, c[q]? = some z ∧ k ≤ z) ∨ ∃ a ∈ A, a.rep.toNat = q ∧ k ≤ a.num) := by
 intro A
 induction A with
 | nil =>
  intro c hc h0 _ q hq
  obtain ⟨z, hz⟩ := get_of (l := c) (i := q) (by omega)
  exact ⟨z, hz, h0 z (List.mem_of_getElem? hz), fun k _ => by simp [hz]⟩
 | cons a A ih =>
  intro c hc h0 hA q hq
  obtain ⟨h1, h2⟩ := hA a (by simp)
  obtain ⟨u, hu⟩ := get_of (l := c) (i := a.rep.toNat) (by omega)
  have hu0 := h0 u (List.mem_of_getElem? hu)
  rw [List.foldl_cons]
  obtain ⟨y, e1, e2, e3⟩ := ih (c.set a.rep.toNat (max (c[a.rep.toNat]?.getD 0) a.num)) (by rw [List.length_set];exact hc) (fun x hx => by
   rcases List.mem_or_eq_of_mem_set hx with h|h
   ·exact h0 x h
   ·rw [h, hu, Option.getD_some];omega) (fun b hb => hA b (List.mem_cons_of_mem _ hb)) q hq
  refine ⟨y, e1, e2, fun k hk => (e3 k hk).trans ?_⟩
  rw [List.getElem?_set]
  by_cases hqa : a.rep.toNat = q
  ·subst hqa
   rw [if_pos rfl, if_pos (by omega), hu, Option.getD_some]
   constructor
   ·rintro (⟨z, hz, hkz⟩|⟨b, hb, hb1, hb2⟩)
    ·cases hz
     by_cases hku : k ≤ u
     ·exact .inl ⟨u, rfl, hku⟩
     ·exact .inr ⟨a, by simp, rfl, by omega⟩
    ·exact .inr ⟨b, List.mem_cons_of_mem _ hb, hb1, hb2⟩
   ·rintro (⟨z, hz, hkz⟩|⟨b, hb, hb1, hb2⟩)
    ·cases hz;exact .inl ⟨_, rfl, by omega⟩
    ·rcases List.mem_cons.1 hb with rfl|hb
     ·exact .inl ⟨_, rfl, by omega⟩
     ·exact .inr ⟨b, hb, hb1, hb2⟩
  ·rw [if_neg hqa]
   constructor
   ·rintro (h|⟨b, hb, hb1, hb2⟩)
    ·exact .inl h
    ·exact .inr ⟨b, List.mem_cons_of_mem _ hb, hb1, hb2⟩
   ·rintro (h|⟨b, hb, hb1, hb2⟩)
    ·exact .inl h
    ·rcases List.mem_cons.1 hb with rfl|hb
     ·exact absurd hb1 hqa
     ·exact .inr ⟨b, hb, hb1, hb2⟩
structure Cau (l A : List EvS) : Prop where
 sub : ∀ a ∈ A, a ∈ l
 cls : ∀ a ∈ A, ∀ d ∈ l, HasC a.past d.rep d.num → d ∈ A
theorem formed_rep {e : EvS} (h : FormedE e) : 0 ≤ e.rep ∧ e.rep.toNat < e.past.length ∧ 1 ≤ e.num := by
 obtain ⟨f1, f2, ⟨x, f3, f4⟩, _⟩ := h
 have := f1.1 x (List.mem_of_getElem? f3)
 unfold rngK at this
 exact ⟨f2, (List.getElem?_eq_some_iff.1 f3).1, by omega⟩
theorem n0_rng {l : List EvS} (hc : ClosedE l) {e : EvS} (he : e ∈ l) : 1 ≤ n0 l ∧ n0 l ≤ 5 := by
 have h := hc.2.2.1 e he
 rw [← h.2];exact h.1.1.2
theorem clkE_at {l A : List EvS} (hc : ClosedE l) (hA : ∀ a ∈ A, a ∈ l) {q : Nat} (hq : q < n0 l) : ∃ y, (clkE (n0 l) A)[q]? = some y ∧ 0 ≤ y ∧ ∀ k, 1 ≤ k → (k ≤ y ↔ ∃ a ∈ A, a.rep.toNat = q ∧ k ≤ a.num) := by
 obtain ⟨y, h1, h2, h3⟩ := clk_key (n := n0 l) A (List.replicate (n0 l) 0) (by simp) (fun x hx => by rw [(List.mem_replicate.1 hx).2];exact Int.le_refl 0) (fun a ha => by
  have hf := hc.2.2.1 a (hA a ha)
  have := formed_rep hf.1
  rw [hf.2] at this
  exact ⟨this.2.1, by omega⟩) q hq
 refine ⟨y, h1, h2, fun k hk => (h3 k hk).trans ⟨fun h => h.elim (fun ⟨z, hz, hkz⟩ => ?_) id, .inr⟩⟩
 rw [List.getElem?_replicate, if_pos hq] at hz
 cases hz;omega
theorem clk_valC {l A : List EvS} (hc : ClosedE l) (hA : ∀ a ∈ A, a ∈ l) (hn : 1 ≤ n0 l ∧ n0 l ≤ 5) : ValC (clkE (n0 l) A) := clkE_val hn fun e he => formed_num (hc.2.2.1 e (hA e he)).1
theorem clk_has {l A : List EvS} (hc : ClosedE l) (hA : Cau l A) {e : EvS} (he : e ∈ l) : HasC (clkE (n0 l) A) e.rep e.num ↔ e ∈ A := by
 have hf := hc.2.2.1 e he
 have hr := formed_rep hf.1
 rw [hf.2] at hr
 obtain ⟨y, h1, h2, h3⟩ := clkE_at hc hA.sub hr.2.1
 constructor
 ·rintro ⟨_, _, _, x, hx, hnx⟩
  rw [h1] at hx;cases hx
  obtain ⟨a, ha, ha1, ha2⟩ := (h3 e.num hr.2.2).1 hnx
  have hfa := formed_rep (hc.2.2.1 a (hA.sub a ha)).1
  have har : e.rep = a.rep := by omega
  by_cases hlt : e.num < a.num
  ·exact hA.cls a ha e he (has_of_lt hc (hA.sub a ha) he har hlt)
  ·have := uniqP_of hc.2.1 e he a (hA.sub a ha) har (by omega)
   rw [this];exact ha
 ·intro h
  exact ⟨clk_valC hc hA.sub (n0_rng hc he), hr.1, hr.2.2, y, h1, (h3 e.num hr.2.2).2 ⟨e, h, rfl, Int.le_refl _⟩⟩
theorem clk_ins {l A : List EvS} (hc : ClosedE l) (hA : Cau l A) {e : EvS} (he : e ∈ l) (hp : ∀ d ∈ l, HasC e.past d.rep d.num → d ∈ A) : Ins e.past (clkE (n0 l) A) := fun i x y hx hy => by
 have hf := hc.2.2.1 e he
 have hil := (List.getElem?_eq_some_iff.1 hx).1
 obtain ⟨z, h1, h2, h3⟩ := clkE_at hc hA.sub (q := i) (by rw [← hf.2];exact hil)
 rw [hy] at h1;cases h1
 by_cases hx1 : 1 ≤ x
 ·obtain ⟨d, hd, g1, g2, _, _⟩ := hc.2.2.2 e he i x hx x hx1 (Int.le_refl _)
  have hdA := hp d hd ⟨hf.1.1, by omega, by omega, x, by rw [g1];simpa using hx, by omega⟩
  exact (h3 x hx1).2 ⟨d, hdA, by omega, by omega⟩
 ·omega
/-! ### States -/
theorem add1_len (s : List Int) (p : Int × Int) : (add1 s p).length = s.length := by simp [add1]
theorem addD_len (d : List (Int × Int)) : ∀ s : List Int, (addD s d).length = s.length := by
 induction d with
 | nil => intro s;rfl
 | cons p d ih => intro s;rw [addD, List.foldl_cons];exact (ih _).trans (add1_len s p)
theorem addE_len (m : ModS) (s : List Int) (e : EvS) : (addE m s e).length = s.length := by
 unfold addE;split
 ·exact addD_len _ s
 ·rfl
theorem wrap_id {x : Int} (h : -9223372036854775808 ≤ x ∧ x ≤ 9223372036854775807) : IntKind.i64.wrap x = x := by rw [IntKind.wrap_i64];omega
theorem addD_bnd (d : List (Int × Int)) : ∀ (s : List Int) (B : Int), 0 ≤ B → B + 1000 * d.length ≤ 1000000000 → (∀ x ∈ s, -B ≤ x ∧ x ≤ B) → (∀ p ∈ d, -1000 ≤ p.2 ∧ p.2 ≤ 1000) → ∀ x ∈ addD s d, -(B + 1000 * d.length) ≤ x ∧ x ≤ B + 1000 * d.length := by
 induction d with
 | nil => intro s B _ _ h _ x hx;have := h x hx;simp only [List.length_nil];omega
 | cons p d ih =>
  intro s B hB hb h hd x hx
  simp only [List.length_cons] at hb ⊢
  have hp := hd p (by simp)
  have h1 : ∀ x ∈ add1 s p, -(B + 1000) ≤ x ∧ x ≤ B + 1000 := fun x hx => by
   rcases List.mem_or_eq_of_mem_set hx with h9|h9
   ·have := h x h9;omega
   ·have h0 : -B ≤ s[p.1.toNat]?.getD 0 ∧ s[p.1.toNat]?.getD 0 ≤ B := by
     cases hs : s[p.1.toNat]? with
     | none => simp only [Option.getD_none];omega
     | some z => exact h z (List.mem_of_getElem? hs)
    rw [h9, wrap_id (by omega)]
    omega
  have := ih (add1 s p) (B + 1000) (by omega) (by omega) h1 (fun q hq => hd q (List.mem_cons_of_mem _ hq)) x hx
  omega
def SmD (m : ModS) : Prop := ∀ a ∈ m.acts, a.eff.delta.length ≤ 20 ∧ ∀ p ∈ a.eff.delta, -1000 ≤ p.2 ∧ p.2 ≤ 1000
theorem dlt_sm {m : ModS} (h : SmD m) (e : EvS) : (dltF m e).length ≤ 20 ∧ ∀ p ∈ dltF m e, -1000 ≤ p.2 ∧ p.2 ≤ 1000 := by
 unfold dltF
 cases ha : m.acts[e.action.toNat]? with
 | none => simp
 | some a => exact h a (List.mem_of_getElem? ha)
theorem addE_bnd {m : ModS} (h : SmD m) (e : EvS) {s : List Int} {k : Nat} (hk : k ≤ 1000) (hs : ∀ x ∈ s, -(1000 + 20000 * (k : Int)) ≤ x ∧ x ≤ 1000 + 20000 * (k : Int)) : ∀ x ∈ addE m s e, -(1000 + 20000 * ((k + 1 : Nat) : Int)) ≤ x ∧ x ≤ 1000 + 20000 * ((k + 1 : Nat) : Int) := by
 intro x hx
 unfold addE at hx
 split at hx
 ·obtain ⟨d1, d2⟩ := dlt_sm h e
  have := addD_bnd (dltF m e) s (1000 + 20000 * (k : Int)) (by omega) (by omega) hs d2 x hx
  omega
 ·have := hs x hx;omega
structure StoA (m : ModS) (l : List EvS) (ld : List Int) (A : List EvS) (w : NowS) : Prop where
 clock : w.clock = clkE (n0 l) A
 time : w.time = A.foldl (fun t e => max t e.time) 0
 state : w.state = A.foldl (addE m) ld
 merged : KnL m A w.merged
 places : w.places = A.foldl plE []
theorem sto_bnd {m : ModS} (h : SmD m) {ld : List Int} (hl : ∀ x ∈ ld, -1000 ≤ x ∧ x ≤ 1000) : ∀ (A : List EvS), A.length ≤ 1000 → ∀ x ∈ A.foldl (addE m) ld, -(1000 + 20000 * (A.length : Int)) ≤ x ∧ x ≤ 1000 + 20000 * (A.length : Int) := by
 have key : ∀ (A : List EvS), A.reverse.length ≤ 1000 → ∀ x ∈ A.reverse.foldl (addE m) ld, -(1000 + 20000 * (A.reverse.length : Int)) ≤ x ∧ x ≤ 1000 + 20000 * (A.reverse.length : Int) := by
  intro A
  induction A with
  | nil => intro _ x hx;have := hl x hx;simp;omega
  | cons e A ih =>
   intro hA x hx
   rw [List.reverse_cons, List.foldl_append] at hx
   rw [List.length_reverse, List.length_cons] at hA
   have h2 := addE_bnd h e (k := A.reverse.length) (by simp;omega) (ih (by simp;omega)) x hx
   simpa using h2
 intro A hA
 have := key A.reverse (by simpa using hA)
 simpa using this
theorem nxt_cau {l A : List EvS} (hc : ClosedE l) (hA : Cau l A) {e : EvS} (he : e ∈ l) (hn : e ∉ A) : Nxt A e := by
 have hu := uniqP_of hc.2.1
 refine ⟨fun p hp ⟨h1, h2⟩ => hn ?_, fun p hp hh => hn (hA.cls p hp e he hh), fun p hp ⟨h1, h2⟩ => ?_, has_self (hc.2.2.1 e he).1⟩
 ·rw [← hu p (hA.sub p hp) e he h1 h2];exact hp
 ·rcases Int.lt_trichotomy p.num e.num with h|h|h
  ·have := (closed_past hc he (hA.sub p hp) (has_of_lt hc he (hA.sub p hp) h2 h)).1
   omega
  ·exact hn (by rw [← hu p (hA.sub p hp) e he h2 h];exact hp)
  ·exact hn (hA.cls p hp e he (has_of_lt hc (hA.sub p hp) he h2.symm h))
theorem deliver_ok {m : ModS} {l A : List EvS} {ld : List Int} {w : NowS} {e : EvS} (hs : SuitE m l) (hl : l.length ≤ 100) (hd : SmD m) (hld : ∀ x ∈ ld, -1000 ≤ x ∧ x ≤ 1000) (hw : StoA m l ld A w) (hAl : A.length ≤ 100) (hA : Cau l A) (he : e ∈ l) (hn : e ∉ A) (hp : ∀ d ∈ l, HasC e.past d.rep d.num → d ∈ A) :
  ∃ w', deliverF m A w e = (0, w') ∧ StoA m l ld (A ++ [e]) w' := by
 obtain ⟨hm, hfw, hc, hf, hv⟩ := hs
 have hnx := nxt_cau hc hA he hn
 have hu : UniqP A := uniqP_sub (uniqP_of hc.2.1) hA.sub
 have hval := hw.merged.valL hm.lay hf hu (fun x hx => (hc.2.2.1 x (hA.sub x hx)).1) (by omega)
 have hpl : e.past.length = n0 l := (hc.2.2.1 e he).2
 have hev : EvV m (e.past.length : Nat) e := by rw [hpl];exact hv e he
 obtain ⟨k', a1, a2, -⟩ := apply_step hm.lay hval (by omega) hw.merged hev hnx
 have hclen : w.clock.length = n0 l := by rw [hw.clock, clkE_len]
 have hb := addE_bnd hd e (k := A.length) (by omega) (sto_bnd hd hld A (by omega))
 have h1 : EvV m (w.clock.length : Nat) e := by rw [hclen];exact hv e he
 have h2 : ¬ HasC w.clock e.rep e.num := by rw [hw.clock];exact fun h => hn ((clk_has hc hA he).1 h)
 have h3 : Ins e.past w.clock := by rw [hw.clock];exact clk_ins hc hA he hp
 have h4 : ¬ LateE A e := fun ⟨x, hx, hh, ht⟩ => by
  have := (closed_past hc he (hA.sub x hx) hh).1
  omega
 have h5 : ¬ (e.kind = 0 ∧ ¬ insS (addE m w.state e)) := fun ⟨_, h⟩ => h fun x hx => by
  rw [hw.state] at hx
  have := hb x hx
  omega
 have h6 : ¬ (applyF m w.merged e).1 ≠ 0 := by rw [a1];exact fun h => h rfl
 refine ⟨⟨cntF w.clock e, max w.time e.time, addE m w.state e, k', plE w.places e⟩, ?_, ⟨?_, ?_, ?_, a2, ?_⟩⟩
 ·rw [deliverF, if_neg (fun h => h h1), if_neg h2, if_neg (fun h => h h3), if_neg h4, if_neg h5, if_neg h6, a1]
 ·simp only [hw.clock, clkE, List.foldl_append, cntF];rfl
 ·simp only [hw.time, List.foldl_append];rfl
 ·simp only [hw.state, List.foldl_append];rfl
 ·simp only [hw.places, List.foldl_append];rfl
end Go.Proofs.YtmllihbhphnolaaGreat
namespace Go.Proofs.YtmllihbhphnolaaGreat
open Go Go.CF
set_option maxRecDepth 20000
structure ExtO (l X : List EvS) : Prop where
 sub : ∀ e ∈ X, e ∈ l
 nxt : ∀ (i : Nat) e, X[i]? = some e → e ∉ X.take i ∧ ∀ d ∈ l, HasC e.past d.rep d.num → d ∈ X.take i
theorem ExtO.cau {l X : List EvS} (h : ExtO l X) (i : Nat) : Cau l (X.take i) := by
 refine ⟨fun a ha => h.sub a (List.mem_of_mem_take ha), fun a ha d hd hh => ?_⟩
 obtain ⟨j, hj⟩ := List.getElem?_of_mem ha
 rw [List.getElem?_take] at hj
 split at hj
 ·rename_i hji
  have := (h.nxt j a hj).2 d hd hh
  rw [show X.take j = (X.take i).take j by rw [List.take_take, Nat.min_eq_left (by omega)]] at this
  exact List.mem_of_mem_take this
 ·cases hj
theorem sto0 (m : ModS) (l : List EvS) (ld : List Int) : StoA m l ld [] ⟨List.replicate (n0 l) 0, 0, ld, List.replicate (mrgF m).length mg0, []⟩ := ⟨rfl, rfl, rfl, KnL.nil m, rfl⟩
theorem wrap_add {x p q : Int} : IntKind.i64.wrap (IntKind.i64.wrap (x + p) + q) = IntKind.i64.wrap (IntKind.i64.wrap (x + q) + p) := by
 simp only [IntKind.wrap_i64];omega
/-! ### Places -/
noncomputable def plL (l : List EvS) : List Int := (l.filter fun e => decide (0 < e.place)).map (·.place)
theorem withP_si {l s : List Int} {n : Int} (h : SI l s) : SI (l ++ [n]) (withP s n) := by
 unfold withP
 split
 ·rename_i hn;exact si_keep h hn
 ·rename_i hn
  refine ⟨List.pairwise_append.2 ⟨h.1.filter _, List.pairwise_cons.2 ⟨fun y hy => by simpa using (List.mem_filter.1 hy).2, h.1.filter _⟩, fun a ha b hb => ?_⟩, fun y => ?_⟩
  ·have ha : a < n := by simpa using (List.mem_filter.1 ha).2
   rcases List.mem_cons.1 hb with rfl|hb
   ·exact ha
   ·have hb : n < b := by simpa using (List.mem_filter.1 hb).2
    omega
  ·constructor
   ·intro h9
    rcases List.mem_append.1 h9 with h9|h9
    ·exact List.mem_append.2 (.inl ((h.2 y).1 (List.mem_filter.1 h9).1))
    ·rcases List.mem_cons.1 h9 with rfl|h9
     ·simp
     ·exact List.mem_append.2 (.inl ((h.2 y).1 (List.mem_filter.1 h9).1))
   ·intro h9
    rcases List.mem_append.1 h9 with h9|h9
    ·have hy := (h.2 y).2 h9
     have hne : y ≠ n := fun e => hn (e ▸ hy)
     by_cases hlt : y < n
     ·exact List.mem_append.2 (.inl (List.mem_filter.2 ⟨hy, by simpa using hlt⟩))
     ·exact List.mem_append.2 (.inr (List.mem_cons.2 (.inr (List.mem_filter.2 ⟨hy, by simp only [decide_eq_true_eq];omega⟩))))
    ·rw [List.mem_singleton.1 h9];simp
theorem plE_si {l : List EvS} : ∀ {P : List Int} {s : List Int}, SI P s → SI (P ++ plL l) (l.foldl plE s) := by
 induction l with
 | nil => intro P s h;simpa [plL] using h
 | cons e l ih =>
  intro P s h
  rw [List.foldl_cons]
  by_cases he : 0 < e.place
  ·have h1 := ih (withP_si (n := e.place) h)
   rw [show plE s e = withP s e.place from if_pos he]
   rw [show P ++ plL (e :: l) = P ++ [e.place] ++ plL l by simp [plL, he]]
   exact h1
  ·rw [show plE s e = s from if_neg he]
   rw [show P ++ plL (e :: l) = P ++ plL l by simp [plL, he]]
   exact ih h
theorem places_srt (l : List EvS) : l.foldl plE [] = srtD (plL l) := by
 have h : SI ([] ++ plL l) (l.foldl plE []) := plE_si ⟨List.Pairwise.nil, by simp⟩
 rw [List.nil_append] at h
 exact h.uniq (srtD_si _)
end Go.Proofs.YtmllihbhphnolaaGreat
namespace Go.Proofs.YtmllihbhphnolaaGreat
open Go Go.CF
set_option maxRecDepth 20000
/-! ### What is made -/
/-! ### Closed parts -/
/-! ### Compaction -/
structure StoS where
 base : NowS
 evs : List EvS
 now : NowS
noncomputable def inL (c : List Int) (l : List EvS) : List EvS := l.filter fun e => decide (HasC c e.rep e.num)
noncomputable def outL (c : List Int) (l : List EvS) : List EvS := l.filter fun e => decide (¬ HasC c e.rep e.num)
noncomputable def mrg1 (m : ModS) (k : List MgS) (e : EvS) : List MgS := (applyF m k e).2
noncomputable def cmp1 (m : ModS) (b : NowS) (e : EvS) : NowS := ⟨b.clock, max b.time e.time, addE m b.state e, mrg1 m b.merged e, plE b.places e⟩
noncomputable def cmpB (m : ModS) (b : NowS) (c : List Int) (l : List EvS) : NowS := { (inL c l).foldl (cmp1 m) b with clock := c }
noncomputable def compactF (m : ModS) (s : StoS) (c : List Int) : Int × StoS :=
 @ite _ (¬ (ValC c ∧ c.length = s.now.clock.length)) (Classical.propDecidable _) (1, s)
  (@ite _ (¬ (Ins s.base.clock c ∧ Ins c s.now.clock ∧ ∀ e ∈ s.evs, HasC c e.rep e.num → Ins e.past c)) (Classical.propDecidable _) (9, s)
   (0, ⟨cmpB m s.base c s.evs, outL c s.evs, { s.now with merged := (outL c s.evs).foldl (mrg1 m) (cmpB m s.base c s.evs).merged }⟩))
end Go.Proofs.YtmllihbhphnolaaGreat
namespace Go.Proofs.YtmllihbhphnolaaGreat
open Go Go.CF
set_option maxRecDepth 20000
def BefE (a b : EvS) : Prop := FormedE a ∧ FormedE b ∧ HasC b.past a.rep a.num
noncomputable instance (a b : EvS) : Decidable (BefE a b) := Classical.propDecidable _
end Go.Proofs.YtmllihbhphnolaaGreat
namespace Go.Proofs.YtmllihbhphnolaaGreat
open Go Go.CF
set_option maxRecDepth 20000
theorem before32_p (a b : EvS) : CallP Tryz.prog 123 [evA' a, evA' b] (bl (decide (BefE a b))) := by
 have h1 := formedR_p a
 have h2 := formedR_p b
 have h3 := nameR_p a
 have h4 := hasR_p b.past a.rep a.num
 by_cases k1 : FormedE a
 ·by_cases k2 : FormedE b
  ·have : decide (BefE a b) = decide (HasC b.past a.rep a.num) := decide_eq_decide.2 ⟨fun h => h.2.2, fun h => ⟨k1, k2, h⟩⟩
   rw [this]
   refine CallA.of pg ord123 Tryz.func123 rfl Tryz.ntmps123 Tryz.results123 rfl fun h0 G0 O0 => ?_
   repeat' (first|refine Sp.h ?_|refine Lk.r rfl ?_|refine Rf.mk rfl ?_|(apply Bd.t;(focus first|assumption|omega|rfl))|refine OpK.r rfl ?_|(refine All.mk ?_;intro _)|(apply TkB.r;(focus repeat constructor))|refine Ch.l ⟨rfl, rfl⟩ ?_|(apply Nm.r;focus repeat constructor)|(apply CA.draw;(focus rfl);(focus kernel_rfl);(focus kernel_rfl);(focus repeat' constructor);(focus rfl))|(apply Cl.p (h1);(focus ((repeat' (first|exact Lend.nil|apply Lend.keep|apply Lend.agg|fail));done)))|(apply Cl.p (h2);(focus ((repeat' (first|exact Lend.nil|apply Lend.keep|apply Lend.agg|fail));done)))|(apply Cl.p (h3);(focus ((repeat' (first|exact Lend.nil|apply Lend.keep|apply Lend.agg|fail));done)))|(apply Cl.p (h4);(focus ((repeat' (first|exact Lend.nil|apply Lend.keep|apply Lend.agg|fail));done))))
   all_goals exact Fin.p rfl rfl
  ·have : decide (BefE a b) = false := decide_eq_false fun h => k2 h.2.1
   rw [this]
   refine CallA.of pg ord123 Tryz.func123 rfl Tryz.ntmps123 Tryz.results123 rfl fun h0 G0 O0 => ?_
   repeat' (first|refine Sp.h ?_|refine Lk.r rfl ?_|refine Rf.mk rfl ?_|(apply Bd.t;(focus first|assumption|omega|rfl))|(apply Bd.f;(focus first|assumption|omega|exact Bool.false_ne_true))|refine OpK.r rfl ?_|(refine All.mk ?_;intro _)|(apply TkB.r;(focus repeat constructor))|refine Ch.l ⟨rfl, rfl⟩ ?_|(apply Nm.r;focus repeat constructor)|(apply CA.draw;(focus rfl);(focus kernel_rfl);(focus kernel_rfl);(focus repeat' constructor);(focus rfl))|(apply Cl.p (h1);(focus ((repeat' (first|exact Lend.nil|apply Lend.keep|apply Lend.agg|fail));done)))|(apply Cl.p (h2);(focus ((repeat' (first|exact Lend.nil|apply Lend.keep|apply Lend.agg|fail));done)))|(apply Cl.p (h3);(focus ((repeat' (first|exact Lend.nil|apply Lend.keep|apply Lend.agg|fail));done)))|(apply Cl.p (h4);(focus ((repeat' (first|exact Lend.nil|apply Lend.keep|apply Lend.agg|fail));done))))
   all_goals exact Fin.p rfl rfl
 ·have : decide (BefE a b) = false := decide_eq_false fun h => k1 h.1
  rw [this]
  refine CallA.of pg ord123 Tryz.func123 rfl Tryz.ntmps123 Tryz.results123 rfl fun h0 G0 O0 => ?_
  repeat' (first|refine Sp.h ?_|refine Lk.r rfl ?_|refine Rf.mk rfl ?_|(apply Bd.f;(focus first|assumption|omega|exact Bool.false_ne_true))|refine OpK.r rfl ?_|(refine All.mk ?_;intro _)|(apply TkB.r;(focus repeat constructor))|refine Ch.l ⟨rfl, rfl⟩ ?_|(apply Nm.r;focus repeat constructor)|(apply CA.draw;(focus rfl);(focus kernel_rfl);(focus kernel_rfl);(focus repeat' constructor);(focus rfl))|(apply Cl.p (h1);(focus ((repeat' (first|exact Lend.nil|apply Lend.keep|fail));done)))|(apply Cl.p (h2);(focus ((repeat' (first|exact Lend.nil|apply Lend.keep|fail));done)))|(apply Cl.p (h3);(focus ((repeat' (first|exact Lend.nil|apply Lend.keep|fail));done)))|(apply Cl.p (h4);(focus ((repeat' (first|exact Lend.nil|apply Lend.keep|fail));done))))
  all_goals exact Fin.p rfl rfl
end Go.Proofs.YtmllihbhphnolaaGreat
namespace Go.Proofs.YtmllihbhphnolaaGreat
open Go Go.CF
set_option maxRecDepth 20000
structure SuitS (m : ModS) (ld : List Int) (l : List EvS) : Prop where
 e : SuitE m l
 ne : 0 < l.length
 ln : ld.length = strF m
 ld : ∀ x ∈ ld, -1000 ≤ x ∧ x ≤ 1000
 sm : ∀ a ∈ m.acts, ∀ p ∈ a.eff.delta, -1000 ≤ p.2 ∧ p.2 ≤ 1000
theorem SuitS.smd {m : ModS} {ld : List Int} {l : List EvS} (h : SuitS m ld l) : SmD m := fun a ha => ⟨(h.e.1.eff a ha).dl, h.sm a ha⟩
end Go.Proofs.YtmllihbhphnolaaGreat
namespace Go.Proofs.YtmllihbhphnolaaGreat
open Go Go.CF
set_option maxRecDepth 20000
noncomputable def stN (m : ModS) (n : Nat) (ld : List Int) (X : List EvS) : NowS := ⟨clkE n X, X.foldl (fun t e => max t e.time) 0, X.foldl (addE m) ld, X.foldl (mrg1 m) (List.replicate (mrgF m).length mg0), X.foldl plE []⟩
theorem deliver_st {m : ModS} {evl : List EvS} {w : NowS} {e : EvS} (h : (deliverF m evl w e).1 = 0) : (deliverF m evl w e).2 = ⟨cntF w.clock e, max w.time e.time, addE m w.state e, (applyF m w.merged e).2, plE w.places e⟩ := by
 unfold deliverF at h ⊢
 repeat' split
 all_goals first
  | rfl
  | (exfalso;simp_all;done)
theorem deliver_ok' {m : ModS} {evl : List EvS} {w : NowS} {e : EvS} (h : (deliverF m evl w e).1 = 0) : ValL (mrgF m) w.merged ∧ EvV m (w.clock.length : Nat) e ∧ (applyF m w.merged e).1 = 0 := by
 have key : EvV m (w.clock.length : Nat) e ∧ (applyF m w.merged e).1 = 0 := by
  unfold deliverF at h
  repeat' split at h
  all_goals first
   | (exfalso;simp at h;done)
   | (rename_i h1 _ _ _ _ h6;exact ⟨Classical.not_not.1 h1, Classical.not_not.1 h6⟩)
   | (rename_i h6;exact absurd h h6)
 exact ⟨(applyF_ok key.2).1, key⟩
theorem stN_snoc (m : ModS) (n : Nat) (ld : List Int) (X : List EvS) (e : EvS) : stN m n ld (X ++ [e]) = ⟨cntF (stN m n ld X).clock e, max (stN m n ld X).time e.time, addE m (stN m n ld X).state e, (applyF m (stN m n ld X).merged e).2, plE (stN m n ld X).places e⟩ := by
 simp only [stN, clkE, List.foldl_append, List.foldl_cons, List.foldl_nil, cntF, mrg1]
theorem plL_len (l : List EvS) : (plL l).length ≤ l.length := by unfold plL;rw [List.length_map];exact List.length_filter_le _ _
theorem foldE_len (m : ModS) (X : List EvS) : ∀ ld : List Int, (X.foldl (addE m) ld).length = ld.length := by
 induction X with
 | nil => exact fun _ => rfl
 | cons e X ih => intro ld;rw [List.foldl_cons, ih, addE_len]
theorem stN_ok {m : ModS} {l X : List EvS} {ld : List Int} (hs : SuitS m ld l) (hX : ∀ e ∈ X, e ∈ l) (hl : X.length ≤ 1000) : NowOK m (stN m (n0 l) ld X) := by
 obtain ⟨e, he⟩ := get_of (l := l) (i := 0) hs.ne
 have hr := n0_rng hs.e.2.2.1 (List.mem_of_getElem? he)
 refine ⟨clk_valC hs.e.2.2.1 hX hr, by simp only [stN, foldE_len];exact hs.ln, ?_, ?_⟩
 ·simp only [stN, places_srt];exact (srtD_si _).1
 ·simp only [stN, places_srt]
  have := srtD_len (plL X);have := plL_len X
  omega
theorem fill_sto {m : ModS} {l X : List EvS} {ld : List Int} (hs : SuitS m ld l) (hl : X.length ≤ 100) (hX : ExtO l X) : ∀ i, i ≤ X.length → StoA m l ld (X.take i) (stN m (n0 l) ld (X.take i)) ∧ ∀ e, X[i]? = some e → deliverF m (X.take i) (stN m (n0 l) ld (X.take i)) e = (0, stN m (n0 l) ld (X.take (i + 1))) := by
 have step : ∀ i e, X[i]? = some e → StoA m l ld (X.take i) (stN m (n0 l) ld (X.take i)) → deliverF m (X.take i) (stN m (n0 l) ld (X.take i)) e = (0, stN m (n0 l) ld (X.take (i + 1))) ∧ StoA m l ld (X.take (i + 1)) (stN m (n0 l) ld (X.take (i + 1))) := by
  intro i e he hst
  have hil := (List.getElem?_eq_some_iff.1 he).1
  have hel := hX.sub e (List.mem_of_getElem? he)
  obtain ⟨h1, h2⟩ := hX.nxt i e he
  obtain ⟨w', d1, d2⟩ := deliver_ok hs.e (by have := hs.e.2.1.1;omega) hs.smd hs.ld hst (by rw [List.length_take];omega) (hX.cau i) hel h1 h2
  have hsu : X.take (i + 1) = X.take i ++ [e] := by rw [List.take_add_one, he];rfl
  have hw : w' = stN m (n0 l) ld (X.take (i + 1)) := by
   have := deliver_st (m := m) (evl := X.take i) (w := stN m (n0 l) ld (X.take i)) (e := e) (by rw [d1])
   rw [d1] at this
   rw [hsu, stN_snoc]
   exact this
  rw [hw] at d1 d2
  rw [← hsu] at d2
  exact ⟨d1, d2⟩
 intro i
 induction i with
 | zero =>
  intro _
  have h0 : StoA m l ld (X.take 0) (stN m (n0 l) ld (X.take 0)) := sto0 m l ld
  exact ⟨h0, fun e he => (step 0 e he h0).1⟩
 | succ i ih =>
  intro hi
  obtain ⟨e, he⟩ := get_of (l := X) (i := i) (by omega)
  have h1 := (step i e he (ih (by omega)).1).2
  exact ⟨h1, fun d hd => (step (i + 1) d hd h1).1⟩
theorem insS_ld {ld : List Int} (h : ∀ x ∈ ld, -1000 ≤ x ∧ x ≤ 1000) : insS ld := fun x hx => by have := h x hx;omega
end Go.Proofs.YtmllihbhphnolaaGreat
