/- Part 8 of the ground of this proof: what its texts say of the model, the program and the plain data; conditions: those that are named. -/
import Derived.Laws.CopyRow
import Derived.Lib.Overlaps
import Derived.Lib.AppendZeros
import Derived.Laws.Externs
import Derived.Test.YtmllihbhphnolaaGreatP07
namespace Go.Proofs.YtmllihbhphnolaaGreat
open Go Go.CF
set_option maxRecDepth 20000
def Nm (x y : MkS) : Prop := x.rep = y.rep ∧ x.num = y.num
def MksTo (t : TblS) (l : List MkS) (n : Nat) : Prop := ∀ i x, i < n → l[i]? = some x → RightK t x ∧ (∀ j y, j < i → l[j]? = some y → ¬ Nm y x) ∧ (∀ y, 0 < i → l[i - 1]? = some y → ¬ LtK x y)
def GenG (t : TblS) (g : MgS) : Prop := (g.drop = true → t.kind = 3) ∧ ¬ (g.put = true ∧ isReg t.kind) ∧ ¬ (t.kind = 4 ∧ 1 < g.marks.length) ∧ g.marks.length ≤ 1024
def ValG (t : TblS) (g : MgS) : Prop := GenG t g ∧ MksTo t g.marks g.marks.length
noncomputable instance (t : TblS) (g : MgS) : Decidable (ValG t g) := Classical.propDecidable _
def namesL (l : List MkS) : List (List Int × Bool) := l.map fun x => ([x.rep, x.num], true)
def HasNm (l : List MkS) (x : MkS) : Prop := ∃ y ∈ l, Nm y x
noncomputable instance (l : List MkS) (x : MkS) : Decidable (HasNm l x) := Classical.propDecidable _
theorem names_look (l : List MkS) (x : MkS) : lookL (namesL l) [x.rep, x.num] = if HasNm l x then some true else none := by
 induction l with
 | nil => simp [namesL, lookL, HasNm]
 | cons a l ih =>
  simp only [namesL, lookL, List.map_cons, List.find?_cons] at ih ⊢
  by_cases h : Nm a x
  ·rw [if_pos ⟨a, by simp, h⟩]
   simp [h.1, h.2]
  ·have h2 : decide ([a.rep, a.num] = [x.rep, x.num]) = false := by simpa [Nm] using h
   rw [h2]
   rw [ih]
   have e : HasNm l x ↔ HasNm (a :: l) x := by simp [HasNm, h]
   by_cases hh : HasNm l x
   ·rw [if_pos hh, if_pos (e.1 hh)]
   ·rw [if_neg hh, if_neg (fun h9 => hh (e.2 h9))]
theorem names_app {l : List MkS} {i : Nat} {x : MkS} (hx : l[i]? = some x) (hn : lookL (namesL (l.take i)) [x.rep, x.num] = none) : updL (namesL (l.take i)) [x.rep, x.num] true = namesL (l.take (i + 1)) := by
 rw [updL_none _ _ _ hn, List.take_add_one, hx];simp [namesL]
theorem mksTo_zero (t : TblS) (l : List MkS) : MksTo t l 0 := fun i x h => by omega
theorem mksTo_succ {t : TblS} {l : List MkS} {i : Nat} {x : MkS} (hx : l[i]? = some x) (h : MksTo t l i) (h1 : RightK t x) (h2 : ∀ j y, j < i → l[j]? = some y → ¬ Nm y x) (h3 : ∀ y, 0 < i → l[i - 1]? = some y → ¬ LtK x y) : MksTo t l (i + 1) := by
 intro k y hk hy
 by_cases hki : k = i
 ·subst hki;rw [hx] at hy;cases hy;exact ⟨h1, h2, h3⟩
 ·exact h k y (by omega) hy
set_option maxHeartbeats 4000000 in
theorem valid34_p (t : TblS) (g : MgS) : CallP Tryz.prog 244 [.agg (tblC t), .agg (mgC g)] (bl (decide (ValG t g))) := by
  obtain ⟨put, drop, l⟩ := g
  have no : ∀ {p : Prop}, (p → False) → ¬ p := fun h => h
  refine CallA.of pg ord244 Tryz.func244 rfl Tryz.ntmps244 Tryz.results244 rfl fun h0 G0 O0 => ?_
  by_cases hg : GenG t ⟨put, drop, l⟩
  · have g1 : drop = true → t.kind = 3 := hg.1
    have g2 : put = true → ¬ isReg t.kind := fun h h' => hg.2.1 ⟨h, h'⟩
    have g3 : ¬ (t.kind = 4 ∧ 1 < l.length) := hg.2.2.1
    have g4 : l.length ≤ 1024 := hg.2.2.2
    repeat' (first|refine Sp.h ?_|refine Lk.r rfl ?_|refine Rf.mk rfl ?_|(apply Bd.t;(focus first|assumption|omega|rfl))|(apply Bd.f;(focus first|assumption|omega|exact Bool.false_ne_true))|(refine Bd.mk ?_ ?_ <;> intro _)|(refine Im.mk ?_;intro _)|(refine All.mk ?_;intro _)|(apply TkB.r;(focus repeat constructor))|refine Ch.l ⟨rfl, rfl⟩ ?_|(apply Nm.r;focus repeat constructor)|(apply Cl.p (register_p _);(focus repeat' (first|exact Lend.nil|apply Lend.keep|fail))))
    all_goals try exact absurd (by assumption) (g2 (by assumption))
    all_goals try exact absurd (g1 (by assumption)) (by assumption)
    all_goals try exact (g3 ⟨by omega, by omega⟩).elim
    all_goals try (simp only at *;omega)
    all_goals refine MkM.r bl ?_
    all_goals repeat' (first|refine Sp.h ?_|refine Lk.r rfl ?_|refine Rf.mk rfl ?_|(refine Im.mk ?_;intro _)|(refine All.mk ?_;intro _)|(apply TkB.r;(focus repeat constructor))|fail)
    all_goals refine CA.loop (fun i : Nat => ⟨[(2, pm _), (3, pm _), (5, .val (.map (some _))), (42, mks l), (43, it (l.length : Nat)), (44, it i)], [blkR _ 157 (tblC t), blkR _ 123 (mgC ⟨put, drop, l⟩), mapR Tryz.prog _ 53 (namesL (l.take i)) bl]⟩) (fun i => i ≤ l.length ∧ MksTo t l i) (fun i => l.length - i) 0 ⟨by repeat first|trivial|refine ⟨rfl,?_⟩,by repeat first|exact .nil|refine .cons (by repeat constructor) ?_⟩ ⟨Nat.zero_le _, mksTo_zero t l⟩ ?_
    all_goals
      rintro i ⟨hi, hm⟩
      by_cases hin : i < l.length
      · obtain ⟨x, hx⟩ := get_of hin
        have hlk := names_look (l.take i) x
        by_cases hdup : HasNm (l.take i) x
        · rw [if_pos hdup] at hlk
          repeat' (first|refine Sp.h ?_|refine Lk.r rfl ?_|refine Rf.mk rfl ?_|(apply Bd.t;(focus first|assumption|omega|rfl))|(apply Bd.f;(focus first|assumption|omega|exact Bool.false_ne_true))|(refine Bd.mk ?_ ?_ <;> intro _)|refine OpK.r rfl ?_|(refine All.mk ?_;intro _)|(apply TkB.r;(focus repeat constructor))|(apply Ix.q;(focus exact rfl);(focus assumption))|refine Ch.l ⟨rfl, rfl⟩ ?_|(apply SetAsk.r;(focus (repeat (first|exact SetAs.z|(apply SetAs.c;(focus (repeat first|assumption|constructor)))))))|(apply Nm.r;focus repeat constructor)|(apply Il.r;(focus repeat (first|apply ILit.cons|exact ILit.nil)))|(apply Kf.mk;(focus kernel_rfl))|(apply TkM.r;(focus repeat constructor))|(apply LkM.s;(focus first|assumption|rfl))|(apply CA.draw;(focus rfl);(focus kernel_rfl);(focus kernel_rfl);(focus repeat' constructor);(focus rfl))|(apply Cl.p (right_p _ _);(focus repeat' (first|exact Lend.nil|apply Lend.keep|fail)))|(apply Cl.p (dot_p _);(focus repeat' (first|exact Lend.nil|apply Lend.keep|fail))))
          all_goals refine Fin.p rfl (vb (decide_eq_false (fun h => ?_)).symm)
          all_goals
            obtain ⟨h1, h2, -⟩ := h.2 i x hin hx
            first
              | exact absurd h1 (by assumption)
              | (obtain ⟨y, hy, hn⟩ := hdup
                 obtain ⟨j, hj⟩ := List.getElem?_of_mem hy
                 have hji : j < i := by have := (List.getElem?_eq_some_iff.1 hj).1;rw [List.length_take] at this;omega
                 rw [List.getElem?_take, if_pos hji] at hj
                 exact h2 j y hji hj hn)
        · rw [if_neg hdup] at hlk
          have hap := names_app hx hlk
          have hd : ∀ j y, j < i → l[j]? = some y → ¬ Nm y x := fun j y hj hy hn => hdup ⟨y, List.mem_of_getElem? (i := j) (by rw [List.getElem?_take, if_pos hj];exact hy), hn⟩
          rcases Nat.eq_zero_or_pos i with h0|h0
          · subst h0
            repeat' (first|refine Sp.h ?_|refine Lk.r rfl ?_|refine Rf.mk rfl ?_|(apply Bd.t;(focus first|assumption|omega|rfl))|(apply Bd.f;(focus first|assumption|omega|exact Bool.false_ne_true))|(refine Bd.mk ?_ ?_ <;> intro _)|refine OpK.r rfl ?_|(refine All.mk ?_;intro _)|(apply TkB.r;(focus repeat constructor))|(apply Ix.q;(focus exact rfl);(focus assumption))|refine Ch.l ⟨rfl, rfl⟩ ?_|(apply SetAsk.r;(focus (repeat (first|exact SetAs.z|(apply SetAs.c;(focus (repeat first|assumption|constructor)))))))|(apply Nm.r;focus repeat constructor)|(apply Il.r;(focus repeat (first|apply ILit.cons|exact ILit.nil)))|(apply Kf.mk;(focus kernel_rfl))|(apply TkM.r;(focus repeat constructor))|refine UpV.r rfl ?_|(apply Zx.b;(focus rfl))|(apply LkM.n;(focus first|assumption|rfl))|(apply CA.draw;(focus rfl);(focus kernel_rfl);(focus kernel_rfl);(focus repeat' constructor);(focus rfl))|(apply Ov.n;(focus first|omega|(simp <;> omega)))|(apply Cl.p (right_p _ _);(focus repeat' (first|exact Lend.nil|apply Lend.keep|fail)))|(apply Cl.p (dot_p _);(focus repeat' (first|exact Lend.nil|apply Lend.keep|fail))))
            all_goals first
              | (refine Fin.p rfl (vb (decide_eq_false (fun h => ?_)).symm)
                 exact absurd (h.2 0 x hin hx).1 (by assumption))
              | (rw [hap]
                 exact PA.lp 1 ⟨by repeat first|trivial|refine ⟨rfl,?_⟩,by repeat first|exact .nil|refine .cons (by repeat constructor) ?_⟩ ⟨⟨hin, mksTo_succ hx hm (by assumption) hd (fun y h _ => absurd h (Nat.lt_irrefl 0))⟩, by omega⟩)
          · obtain ⟨k, rfl⟩ : ∃ k, i = k + 1 := ⟨i - 1, by omega⟩
            obtain ⟨y, hy⟩ := get_of (l := l) (i := k) (by omega)
            have hk4 : ¬ t.kind = 4 := fun h => g3 ⟨h, by omega⟩
            have hcm := cmpK_pos (a := y) (b := x)
            first
              | exact absurd (by assumption) hk4
              | skip
            all_goals repeat' (first|refine Sp.h ?_|refine Lk.r rfl ?_|refine Rf.mk rfl ?_|(apply Bd.t;(focus first|assumption|omega|rfl))|(apply Bd.f;(focus first|assumption|omega|exact Bool.false_ne_true))|(refine Bd.mk ?_ ?_ <;> intro _)|refine OpK.r rfl ?_|(refine All.mk ?_;intro _)|(apply TkB.r;(focus repeat constructor))|(apply Ix.q;(focus exact rfl);(focus assumption))|(apply Ix.r;(focus assumption);(focus omega))|refine Ch.l ⟨rfl, rfl⟩ ?_|(apply SetAsk.r;(focus (repeat (first|exact SetAs.z|(apply SetAs.c;(focus (repeat first|assumption|constructor)))))))|(apply Nm.r;focus repeat constructor)|(apply Il.r;(focus repeat (first|apply ILit.cons|exact ILit.nil)))|(apply Kf.mk;(focus kernel_rfl))|(apply TkM.r;(focus repeat constructor))|(apply Zx.b;(focus rfl))|(apply LkM.n;(focus first|assumption|rfl))|(apply CA.draw;(focus rfl);(focus kernel_rfl);(focus kernel_rfl);(focus repeat' constructor);(focus rfl))|(apply Ov.n;(focus first|omega|(simp <;> omega)))|(apply Cl.p (right_p _ _);(focus repeat' (first|exact Lend.nil|apply Lend.keep|fail)))|(apply Cl.p (dot_p _);(focus repeat' (first|exact Lend.nil|apply Lend.keep|fail))))
            all_goals try (refine Fin.p rfl (vb (decide_eq_false (fun h => ?_)).symm);exact absurd (h.2 (k + 1) x hin hx).1 (by assumption))
            all_goals repeat' (first|refine Sp.h ?_|refine Lk.r rfl ?_|refine Rf.mk rfl ?_|(apply Bd.t;(focus first|assumption|omega|rfl))|(refine Bd.mk ?_ ?_ <;> intro _)|refine OpK.r rfl ?_|(apply TkB.r;(focus repeat constructor))|refine Ch.l ⟨rfl, rfl⟩ ?_|(apply Nm.r;focus repeat constructor)|(apply Il.r;(focus repeat (first|apply ILit.cons|exact ILit.nil)))|(apply Kf.mk;(focus kernel_rfl))|(apply TkM.r;(focus repeat constructor))|refine UpV.r rfl ?_|(apply Ov.n;(focus first|omega|(simp <;> omega)))|(apply Cl.p (compareK_p _ _);(focus repeat' (first|exact Lend.nil|apply Lend.keep|fail)))|(apply Cl.p (dot_p _);(focus repeat' (first|exact Lend.nil|apply Lend.keep|fail))))
            all_goals first
              | (refine Fin.p rfl (vb (decide_eq_false (fun h => ?_)).symm)
                 exact (h.2 (k + 1) x hin hx).2.2 y h0 hy (hcm.1 (by assumption)))
              | (rw [hap]
                 exact PA.lp (k + 1 + 1) ⟨by repeat first|trivial|refine ⟨rfl,?_⟩,by repeat first|exact .nil|refine .cons (by repeat constructor) ?_⟩ ⟨⟨hin, mksTo_succ hx hm (by assumption) hd (fun z _ hz => by rw [show k + 1 - 1 = k from rfl, hy] at hz;cases hz;exact fun h => absurd (hcm.2 h) (by assumption))⟩, by omega⟩)
      · have hie : i = l.length := by omega
        subst hie
        repeat' (first|refine Sp.h ?_|refine Lk.r rfl ?_|refine Rf.mk rfl ?_|(apply Bd.f;(focus first|assumption|omega|exact Bool.false_ne_true))|(apply Nm.r;focus repeat constructor)|fail)
        exact Fin.p rfl (vb (decide_eq_true (show ValG t ⟨put, drop, l⟩ from ⟨hg, hm⟩)).symm)
  · have hng : ¬ ValG t ⟨put, drop, l⟩ := fun h => hg h.1
    unfold GenG at hg
    repeat' (first|refine Sp.h ?_|refine Lk.r rfl ?_|refine Rf.mk rfl ?_|(apply Bd.t;(focus first|assumption|omega|rfl))|(apply Bd.f;(focus first|assumption|omega|exact Bool.false_ne_true))|(refine Bd.mk ?_ ?_ <;> intro _)|(refine Im.mk ?_;intro _)|(refine All.mk ?_;intro _)|(apply TkB.r;(focus repeat constructor))|refine Ch.l ⟨rfl, rfl⟩ ?_|(apply Nm.r;focus repeat constructor)|(apply Cl.p (register_p _);(focus repeat' (first|exact Lend.nil|apply Lend.keep|fail))))
    all_goals first
      | exact Fin.p rfl (vb (decide_eq_false hng).symm)
      | (refine (hg ⟨fun h => ?_, fun h => ?_, fun h => ?_, ?_⟩).elim
         all_goals (simp only at *;first|assumption|omega|simp_all))
def ValL (ts : List TblS) (l : List MgS) : Prop := ts.length = l.length ∧ ∀ (i : Nat) (t : TblS) (g : MgS), ts[i]? = some t → l[i]? = some g → ValG t g
noncomputable instance (ts : List TblS) (l : List MgS) : Decidable (ValL ts l) := Classical.propDecidable _
abbrev EqFn : FuncId := 243
theorem equalTM_p (ts : List TblS) (l : List MgS) : CallP Tryz.prog EqFn [tbls ts, mgs l, .fn 244 []] (bl (decide (ValL ts l))) := by
 refine CallA.of pg ord243 Tryz.func243 rfl Tryz.ntmps243 Tryz.results243 rfl fun h0 G0 O0 => ?_
 repeat' (first|refine Sp.h ?_|refine Lk.r rfl ?_|refine Rf.mk rfl ?_|(refine Bd.mk ?_ ?_ <;> intro _)|(refine Im.mk ?_;intro _)|(apply Nm.r;focus repeat constructor)|fail)
 rotate_left
 ·rename_i hlen
  exact Fin.p rfl (vb (decide_eq_false (fun h => by have := h.1;omega)).symm)
 refine CA.loop (fun i : Nat => ⟨[(1, mgs l), (2, .fn 244 []), (15, tbls ts), (16, it (ts.length : Nat)), (17, it i)], []⟩) (fun i => i ≤ ts.length ∧ ∀ j t g, j < i → ts[j]? = some t → l[j]? = some g → ValG t g) (fun i => ts.length - i) 0 ⟨by repeat first|trivial|refine ⟨rfl,?_⟩,by repeat first|exact .nil|refine .cons (by repeat constructor) ?_⟩ ⟨Nat.zero_le _, fun j t g h => by omega⟩ ?_
 rintro i ⟨hi, ha⟩
 by_cases hin : i < ts.length
 ·obtain ⟨t, ht⟩ := get_of hin
  obtain ⟨g, hg⟩ := get_of (l := l) (i := i) (by omega)
  repeat' (first|refine Sp.h ?_|refine Lk.r rfl ?_|refine Rf.mk rfl ?_|(apply Bd.t;(focus first|assumption|omega|rfl))|(refine Bd.mk ?_ ?_ <;> intro _)|(refine All.mk ?_;intro _)|(apply TkB.r;(focus repeat constructor))|(apply Ix.q;(focus exact rfl);(focus assumption))|refine Ch.l ⟨rfl, rfl⟩ ?_|(apply SetAsk.r;(focus (repeat (first|exact SetAs.z|(apply SetAs.c;(focus (repeat first|assumption|constructor)))))))|(apply Nm.r;focus repeat constructor)|(apply Ov.n;(focus first|omega|(simp <;> omega)))|(apply Cl.p (valid34_p _ _);(focus repeat' (first|exact Lend.nil|apply Lend.keep|fail))))
  ·refine PA.lp (i + 1) ⟨by repeat first|trivial|refine ⟨rfl,?_⟩,by repeat first|exact .nil|refine .cons (by repeat constructor) ?_⟩ ⟨⟨hin, fun j t' g' hj h1 h2 => ?_⟩, by omega⟩
   by_cases hji : j = i
   ·subst hji;rw [ht] at h1;rw [hg] at h2;cases h1;cases h2;assumption
   ·exact ha j t' g' (by omega) h1 h2
  ·exact Fin.p rfl (vb (decide_eq_false (fun h => by have := h.2 i t g ht hg;contradiction)).symm)
 have hie : i = ts.length := by omega
 subst hie
 repeat' (first|refine Sp.h ?_|refine Lk.r rfl ?_|refine Rf.mk rfl ?_|(apply Bd.f;(focus first|assumption|omega|exact Bool.false_ne_true))|(apply Nm.r;focus repeat constructor)|fail)
 exact Fin.p rfl (vb (decide_eq_true (show ValL ts l from ⟨by omega, fun j t g h1 h2 => ha j t g (List.getElem?_eq_some_iff.1 h1).1 h1 h2⟩)).symm)
theorem validM_p (m : ModS) (l : List MgS) (hm : LayOK m.sorts m.tables) : CallP Tryz.prog 176 [mdl m, mgs l] (bl (decide (ValL (mrgF m) l))) := by
 have hc := cells_p m hm
 have he := equalTM_p (mrgF m) l
 refine CallA.of pg ord176 Tryz.func176 rfl Tryz.ntmps176 Tryz.results176 rfl fun h0 G0 O0 => ?_
 repeat' (first|refine Sp.h ?_|refine Lk.r rfl ?_|refine Rf.mk rfl ?_|(refine All.mk ?_;intro _)|(apply TkB.r;(focus repeat constructor))|refine Ch.l ⟨rfl, rfl⟩ ?_|(apply Cl.p (hc);(focus repeat' (first|exact Lend.nil|apply Lend.keep|fail))))
 (apply Cl.p (he);(focus repeat' (first|exact Lend.nil|apply Lend.keep|fail)))
 repeat' (first|refine Sp.h ?_|refine Lk.r rfl ?_|(apply Nm.r;focus repeat constructor)|fail)
 exact Fin.p rfl rfl
end Go.Proofs.YtmllihbhphnolaaGreat
namespace Go.Proofs.YtmllihbhphnolaaGreat
open Go Go.CF
set_option maxRecDepth 20000
def isSetK (k : Int) : Prop := k = 2 ∨ k = 3
noncomputable instance (k : Int) : Decidable (isSetK k) := Classical.propDecidable _
theorem isSet34_p (k : Int) : CallP Tryz.prog 183 [it k] (bl (decide (isSetK k))) := by
 refine CallA.of pg ord183 Tryz.func183 rfl Tryz.ntmps183 Tryz.results183 rfl fun h0 G0 O0 => ?_
 repeat' (first|refine Sp.h ?_|refine Lk.r rfl ?_|refine Rf.mk rfl ?_|(apply Bd.t;(focus first|assumption|omega|rfl))|(apply Bd.f;(focus first|assumption|omega|exact Bool.false_ne_true))|(refine Bd.mk ?_ ?_ <;> intro _)|(apply Nm.r;focus repeat constructor)|fail)
 all_goals refine Fin.p rfl (vb ?_)
 all_goals first
  | exact decide_eq_decide.2 (by unfold isSetK;omega)
  | exact (decide_eq_true (by unfold isSetK;omega)).symm
def KindM (ts : List TblS) : Prop := ∀ t ∈ ts, 2 ≤ t.kind ∧ t.kind ≤ 5
theorem mrgL_mem {m : ModS} {l : List TblS} {t : TblS} (h : t ∈ mrgL m l) : t ∈ l ∧ ¬ isStrict t.kind := by
 unfold mrgL at h
 obtain ⟨u, hu, ht⟩ := List.mem_flatMap.1 h
 split at ht
 ·cases ht
 ·rename_i hs
  have := List.eq_of_mem_replicate ht
  subst this
  exact ⟨hu, hs⟩
theorem kindM {m : ModS} (hm : LayOK m.sorts m.tables) : KindM (mrgF m) := by
 intro t ht
 obtain ⟨h1, h2⟩ := mrgL_mem ht
 have := (hm.2.2.2 t h1).2
 unfold isStrict at h2
 omega
theorem ltK_total {a b : MkS} (h1 : ¬ LtK a b) (h2 : ¬ LtK b a) : Nm a b := by unfold LtK at h1 h2;unfold Nm;omega
theorem ltK_asym {a b : MkS} (h1 : LtK a b) : ¬ LtK b a := by unfold LtK at h1 ⊢;omega
structure Stopped (p : Prop) : Prop where
 h : p
theorem Stopped.out {p : Prop} (h : Stopped p) : p := h.h
set_option maxHeartbeats 16000000 in
theorem validR34_p (m : ModS) (l : List MgS) (hm : LayOK m.sorts m.tables) : CallP Tryz.prog 178 [mdl m, mgs l] (bl (decide (ValL (mrgF m) l))) := by
  have hc := merged32_p m hm
  have hk := kindM hm
  have hml := mrgF_le hm
  obtain ⟨ts, hts⟩ : ∃ ts, ts = mrgF m := ⟨_, rfl⟩
  rw [← hts] at hc hk hml ⊢
  refine CallA.of pg ord178 Tryz.func178 rfl Tryz.ntmps178 Tryz.results178 rfl fun h0 G0 O0 => ?_
  repeat' (first|refine Sp.h ?_|refine Lk.r rfl ?_|refine Rf.mk rfl ?_|(refine Bd.mk ?_ ?_ <;> intro _)|(refine Im.mk ?_;intro _)|(refine All.mk ?_;intro _)|(apply TkB.r;(focus repeat constructor))|refine Ch.l ⟨rfl, rfl⟩ ?_|(apply Nm.r;focus repeat constructor)|(apply Cl.p (hc);(focus repeat' (first|exact Lend.nil|apply Lend.keep|fail))))
  rotate_left
  · exact Fin.p rfl (vb (decide_eq_false (fun h => by have := h.1;omega)).symm)
  rename_i hlen
  refine CA.loop (fun i : Nat => ⟨[(1, mgs l), (5, tbls ts), (6, it i)], []⟩) (fun i => i ≤ l.length ∧ ∀ (j : Nat) (t : TblS) (g : MgS), j < i → ts[j]? = some t → l[j]? = some g → ValG t g) (fun i => l.length - i) 0 ⟨by repeat first|trivial|refine ⟨rfl,?_⟩,by repeat first|exact .nil|refine .cons (by repeat constructor) ?_⟩ ⟨Nat.zero_le _, fun j t g h => by omega⟩ ?_
  rintro i ⟨hi, ha⟩
  by_cases hin : i < l.length
  · obtain ⟨g, hg⟩ := get_of hin
    obtain ⟨t, ht⟩ := get_of (l := ts) (i := i) (by omega)
    obtain ⟨hk1, hk2⟩ := hk t (List.mem_of_getElem? ht)
    have hbad : ¬ ValG t g → ¬ ValL ts l := fun h h' => h (h'.2 i t g ht hg)
    (repeat' (first|(show CA _ _ (Code.region 7 _ _) _ _;apply Stopped.out)|refine Sp.h ?_|refine Lk.r rfl ?_|refine Rf.mk rfl ?_|(apply Bd.t;(focus first|assumption|omega|rfl))|(refine Im.mk ?_;intro _)|fail));any_goals apply Stopped.mk
    refine CA.cut (fun p : Nat × Nat => ⟨[(1, mgs l), (5, tbls ts), (6, it i), (7, pm p.1), (8, pm p.2)], [blkR p.1 157 (tblC t), blkR p.2 123 (mgC g)]⟩) (fun _ => True) ?_ ?_
    · repeat' (first|refine Sp.h ?_|refine Lk.r rfl ?_|refine Rf.mk rfl ?_|refine OpK.r rfl ?_|(apply Om.mk;(focus first|omega|(simp <;> omega)))|(refine Im.mk ?_;intro _)|(refine All.mk ?_;intro _)|(apply TkB.r;(focus repeat constructor))|(apply Ix.q;(focus exact rfl);(focus assumption))|refine Ch.l ⟨rfl, rfl⟩ ?_|(apply SetAsk.r;(focus (repeat (first|exact SetAs.z|(apply SetAs.c;(focus (repeat first|assumption|constructor)))))))|(apply Nm.r;focus repeat constructor)|exact trivial|(apply CA.drawF;(focus rfl);(focus kernel_rfl);(focus kernel_rfl);(focus repeat' constructor);(focus rfl);intro _n0 _hlt)|apply RA'.both|fail)
      all_goals exact PA.lp (_, _) ⟨by repeat first|trivial|refine ⟨rfl,?_⟩,by repeat first|exact .nil|refine .cons (by repeat constructor) ?_⟩ trivial
    rintro ⟨b7, b8⟩ -
    simp only
    (repeat' (first|(show CA _ _ (Code.region 8 _ _) _ _;apply Stopped.out)|refine Sp.h ?_|(apply Cl.p (isSet34_p _);(focus repeat' (first|fail)))));any_goals apply Stopped.mk
    refine CA.cut (fun b : Bool => ⟨[(1, mgs l), (5, tbls ts), (6, it i), (7, pm b7), (8, pm b8), (66, bl b)], [blkR b7 157 (tblC t), blkR b8 123 (mgC g)]⟩) (fun b => b = true ↔ ¬ GenG t g) ?_ ?_
    · obtain ⟨put, drop, k⟩ := g
      cases put <;> cases drop
      all_goals repeat' (first|refine Sp.h ?_|refine Lk.r rfl ?_|refine Rf.mk rfl ?_|(apply Bd.t;(focus first|assumption|omega|rfl))|(apply Bd.f;(focus first|assumption|omega|exact Bool.false_ne_true))|(refine Bd.mk ?_ ?_ <;> intro _)|(refine Im.mk ?_;intro _)|(apply TkB.r;(focus repeat constructor))|(apply Cl.p (isSet34_p _);(focus repeat' (first|exact Lend.nil|apply Lend.keep|fail))))
      all_goals exact PA.lp _ ⟨by repeat first|trivial|refine ⟨rfl,?_⟩,by repeat first|exact .nil|refine .cons (by repeat constructor) ?_⟩ (by simp [GenG, isReg, isSetK] at *;omega)
    rintro b hb
    cases b
    · have hgen : GenG t g := Classical.not_not.1 fun h => by have := hb.2 h;cases this
      simp only
      repeat' (first|refine Sp.h ?_|refine Lk.r rfl ?_|refine Rf.mk rfl ?_|fail)
      refine CA.loop (fun n : Nat => ⟨[(1, mgs l), (5, tbls ts), (6, it i), (7, pm b7), (8, pm b8), (9, it n)], [blkR b7 157 (tblC t), blkR b8 123 (mgC g)]⟩) (fun n => n ≤ g.marks.length ∧ MksTo t g.marks n) (fun n => g.marks.length - n) 0 ⟨by repeat first|trivial|refine ⟨rfl,?_⟩,by repeat first|exact .nil|refine .cons (by repeat constructor) ?_⟩ ⟨Nat.zero_le _, mksTo_zero t g.marks⟩ ?_
      rintro n ⟨hn, hmt⟩
      by_cases hnn : n < g.marks.length
      · obtain ⟨x, hx⟩ := get_of hnn
        have hno : ¬ (RightK t x ∧ (∀ (j : Nat) (y : MkS), j < n → g.marks[j]? = some y → ¬ Nm y x) ∧ (∀ y, 0 < n → g.marks[n - 1]? = some y → ¬ LtK x y)) → ¬ ValL ts l := fun h => hbad fun h' => h (h'.2 n x hnn hx)
        (repeat' (first|(show CA _ _ (Code.region 14 _ _) _ _;apply Stopped.out)|refine Sp.h ?_|refine Lk.r rfl ?_|refine Rf.mk rfl ?_|(apply Bd.t;(focus first|assumption|omega|rfl))|(refine Im.mk ?_;intro _)|(refine All.mk ?_;intro _)|(apply TkB.r;(focus repeat constructor))|(apply Ix.q;(focus exact rfl);(focus assumption))|refine Ch.l ⟨rfl, rfl⟩ ?_|(apply SetAsk.r;(focus (repeat (first|exact SetAs.z|(apply SetAs.c;(focus (repeat first|assumption|constructor)))))))|(apply Nm.r;focus repeat constructor)|fail));any_goals apply Stopped.mk
        rename_i b10
        refine CA.cut (fun b : Bool => ⟨[(1, mgs l), (5, tbls ts), (6, it i), (7, pm b7), (8, pm b8), (9, it n), (10, pm b10), (106, bl b)], [blkR b7 157 (tblC t), blkR b8 123 (mgC g), blkR b10 125 (mkC x)]⟩) (fun b => b = true ↔ ¬ ((0 ≤ x.rep ∧ x.rep ≤ 4) ∧ (1 ≤ x.num ∧ x.num ≤ 1024) ∧ (1 ≤ x.time ∧ x.time ≤ 1073741824))) ?_ ?_
        · repeat' (first|refine Sp.h ?_|refine Lk.r rfl ?_|refine Rf.mk rfl ?_|(apply Bd.t;(focus first|assumption|omega|rfl))|(apply Bd.f;(focus first|assumption|omega|exact Bool.false_ne_true))|(refine Bd.mk ?_ ?_ <;> intro _)|(apply TkB.r;(focus repeat constructor))|fail)
          all_goals exact PA.lp _ ⟨by repeat first|trivial|refine ⟨rfl,?_⟩,by repeat first|exact .nil|refine .cons (by repeat constructor) ?_⟩ (by simp only [decide_eq_true_eq, true_iff];omega)
        rintro b hb14
        cases b
        rotate_left
        · simp only
          repeat' (first|refine Sp.h ?_|refine Lk.r rfl ?_|refine Rf.mk rfl ?_|(apply Nm.r;focus repeat constructor)|fail)
          exact Fin.p rfl (vb (decide_eq_false (hno fun h => hb14.1 rfl ⟨h.1.1, h.1.2.1, h.1.2.2.1⟩)).symm)
        have hr14 := Classical.not_not.1 fun h => by have := hb14.2 h;cases this
        simp only
        (repeat' (first|(show CA _ _ (Code.region 16 _ _) _ _;apply Stopped.out)|refine Sp.h ?_|refine Lk.r rfl ?_|fail));any_goals apply Stopped.mk
        refine CA.cut (fun b : Bool => ⟨[(1, mgs l), (5, tbls ts), (6, it i), (7, pm b7), (8, pm b8), (9, it n), (10, pm b10), (151, bl b)], [blkR b7 157 (tblC t), blkR b8 123 (mgC g), blkR b10 125 (mkC x)]⟩) (fun b => b = true ↔ ¬ (RightK t x ∧ (∀ y, 0 < n → g.marks[n - 1]? = some y → LtK y x))) ?_ ?_
        · have hrt : RightK t x ↔ (isSetK t.kind ∧ x.val = 0 ∨ ¬ isSetK t.kind ∧ t.lo ≤ x.val ∧ x.val ≤ t.hi) := by
            unfold RightK lowT highT
            by_cases hs : isReg t.kind
            · rw [if_pos hs, if_pos hs];unfold isReg at hs;unfold isSetK;omega
            · rw [if_neg hs, if_neg hs];unfold isReg at hs;unfold isSetK;omega
          rw [hrt]
          rcases Nat.eq_zero_or_pos n with h0|h0
          · subst h0
            have hz : (∀ y, 0 < 0 → g.marks[0 - 1]? = some y → LtK y x) ↔ True := ⟨fun _ => trivial, fun _ y h => absurd h (Nat.lt_irrefl 0)⟩
            rw [hz]
            repeat' (first|refine Sp.h ?_|refine Lk.r rfl ?_|refine Rf.mk rfl ?_|(apply Bd.t;(focus first|assumption|omega|rfl))|(apply Bd.f;(focus first|assumption|omega|exact Bool.false_ne_true))|(refine Bd.mk ?_ ?_ <;> intro _)|refine OpK.r rfl ?_|(apply TkB.r;(focus repeat constructor))|(apply CA.draw;(focus rfl);(focus kernel_rfl);(focus kernel_rfl);(focus repeat' constructor);(focus rfl))|(apply Cl.p (isSet34_p _);(focus repeat' (first|exact Lend.nil|apply Lend.keep|fail)))|(apply Cl.p (less34_p _ _);(focus repeat' (first|exact Lend.nil|apply Lend.keep|fail))))
            all_goals exact PA.lp _ ⟨by repeat first|trivial|refine ⟨rfl,?_⟩,by repeat first|exact .nil|refine .cons (by repeat constructor) ?_⟩ (by (try unfold isSetK at *);(try simp only [and_true, true_iff, Bool.false_eq_true, false_iff]);omega)
          · obtain ⟨q, rfl⟩ : ∃ q, n = q + 1 := ⟨n - 1, by omega⟩
            obtain ⟨y, hy⟩ := get_of (l := g.marks) (i := q) (by omega)
            have hz : (∀ y, 0 < q + 1 → g.marks[q + 1 - 1]? = some y → LtK y x) ↔ LtK y x := ⟨fun h => h y h0 hy, fun h z _ hz => by rw [show q + 1 - 1 = q from rfl, hy] at hz;cases hz;exact h⟩
            rw [hz]
            repeat' (first|refine Sp.h ?_|refine Lk.r rfl ?_|refine Rf.mk rfl ?_|(apply Bd.t;(focus first|assumption|omega|rfl))|(apply Bd.f;(focus first|assumption|omega|exact Bool.false_ne_true))|(refine Bd.mk ?_ ?_ <;> intro _)|refine OpK.r rfl ?_|(apply TkB.r;(focus repeat constructor))|(apply Ix.r;(focus assumption);(focus omega))|refine Ch.l ⟨rfl, rfl⟩ ?_|(apply CA.draw;(focus rfl);(focus kernel_rfl);(focus kernel_rfl);(focus repeat' constructor);(focus rfl))|(apply Ov.n;(focus first|omega|(simp <;> omega)))|(apply Cl.p (isSet34_p _);(focus repeat' (first|exact Lend.nil|apply Lend.keep|fail)))|(apply Cl.p (less34_p _ _);(focus repeat' (first|exact Lend.nil|apply Lend.keep|fail))))
            all_goals exact PA.lp _ ⟨by repeat first|trivial|refine ⟨rfl,?_⟩,by repeat first|exact .nil|refine .cons (by repeat constructor) ?_⟩ (by (try unfold isSetK at *);(try unfold LtK at *);(try simp only [true_iff, decide_not, Bool.not_eq_true', decide_eq_false_iff_not]);omega)
        rintro b hb16
        cases b
        rotate_left
        · simp only
          repeat' (first|refine Sp.h ?_|refine Lk.r rfl ?_|refine Rf.mk rfl ?_|(apply Nm.r;focus repeat constructor)|fail)
          refine Fin.p rfl (vb (decide_eq_false (hno fun h => hb16.1 rfl ⟨h.1, fun y h1 h2 => Classical.byContradiction fun h3 => h.2.1 (n - 1) y (by omega) h2 (ltK_total h3 (h.2.2 y h1 h2))⟩)).symm)
        obtain ⟨hR, hlt⟩ := Classical.not_not.1 fun h => by have := hb16.2 h;cases this
        simp only
        repeat' (first|refine Sp.h ?_|refine Lk.r rfl ?_|refine Rf.mk rfl ?_|fail)
        refine CA.loop (fun j : Nat => ⟨[(1, mgs l), (5, tbls ts), (6, it i), (7, pm b7), (8, pm b8), (9, it n), (10, pm b10), (11, it j)], [blkR b7 157 (tblC t), blkR b8 123 (mgC g), blkR b10 125 (mkC x)]⟩) (fun j => j ≤ n ∧ ∀ (j' : Nat) (z : MkS), j' < j → g.marks[j']? = some z → ¬ Nm z x) (fun j => n - j) 0 ⟨by repeat first|trivial|refine ⟨rfl,?_⟩,by repeat first|exact .nil|refine .cons (by repeat constructor) ?_⟩ ⟨Nat.zero_le _, fun j' z h => absurd h (Nat.not_lt_zero _)⟩ ?_
        rintro j ⟨hj, hjd⟩
        by_cases hjn : j < n
        · obtain ⟨z, hz⟩ := get_of (l := g.marks) (i := j) (by omega)
          by_cases hnm : Nm z x
          · obtain ⟨hn1, hn2⟩ := id hnm
            repeat' (first|refine Sp.h ?_|refine Lk.r rfl ?_|refine Rf.mk rfl ?_|(apply Bd.t;(focus first|assumption|omega|rfl))|refine OpK.r rfl ?_|(apply TkB.r;(focus repeat constructor))|(apply Ix.q;(focus exact rfl);(focus assumption))|(apply Nm.r;focus repeat constructor)|(apply CA.draw;(focus rfl);(focus kernel_rfl);(focus kernel_rfl);(focus repeat' constructor);(focus rfl))|fail)
            exact Fin.p rfl (vb (decide_eq_false (hno fun h => h.2.1 j z hjn hz hnm)).symm)
          · have hnm' : ¬ (z.rep = x.rep ∧ z.num = x.num) := hnm
            repeat' (first|refine Sp.h ?_|refine Lk.r rfl ?_|refine Rf.mk rfl ?_|(apply Bd.t;(focus first|assumption|omega|rfl))|(apply Bd.f;(focus first|assumption|omega|exact Bool.false_ne_true))|(refine Bd.mk ?_ ?_ <;> intro _)|refine OpK.r rfl ?_|(apply TkB.r;(focus repeat constructor))|(apply Ix.q;(focus exact rfl);(focus assumption))|(apply CA.draw;(focus rfl);(focus kernel_rfl);(focus kernel_rfl);(focus repeat' constructor);(focus rfl))|(apply Ov.n;(focus first|omega|(simp <;> omega)))|fail)
            all_goals first
              | (refine PA.lp (j + 1) ⟨by repeat first|trivial|refine ⟨rfl,?_⟩,by repeat first|exact .nil|refine .cons (by repeat constructor) ?_⟩ ⟨⟨hjn, fun j' z' h1 h2 => ?_⟩, by omega⟩
                 by_cases hjj : j' = j
                 · subst hjj;rw [hz] at h2;cases h2;exact hnm
                 · exact hjd j' z' (by omega) h2)
              | exact (hnm' ⟨by assumption, by assumption⟩).elim
        · have hje : j = n := by omega
          subst hje
          repeat' (first|refine Sp.h ?_|refine Lk.r rfl ?_|refine Rf.mk rfl ?_|(apply Bd.f;(focus first|assumption|omega|exact Bool.false_ne_true))|(apply Ov.n;(focus first|omega|(simp <;> omega)))|fail)
          exact PA.lp (j + 1) ⟨by repeat first|trivial|refine ⟨rfl,?_⟩,by repeat first|exact .nil|refine .cons (by repeat constructor) ?_⟩ ⟨⟨hnn, mksTo_succ hx hmt hR hjd (fun z h1 hz => ltK_asym (hlt z h1 hz))⟩, by omega⟩
      · have hne : n = g.marks.length := by omega
        subst hne
        repeat' (first|refine Sp.h ?_|refine Lk.r rfl ?_|refine Rf.mk rfl ?_|(apply Bd.f;(focus first|assumption|omega|exact Bool.false_ne_true))|(refine Im.mk ?_;intro _)|(apply TkB.r;(focus repeat constructor))|(apply Ov.n;(focus first|omega|(simp <;> omega)))|fail)
        refine PA.lp (i + 1) ⟨by repeat first|trivial|refine ⟨rfl,?_⟩,by repeat first|exact .nil|refine .cons (by repeat constructor) ?_⟩ ⟨⟨hin, fun j t' g' hj h1 h2 => ?_⟩, by omega⟩
        by_cases hji : j = i
        · subst hji;rw [ht] at h1;rw [hg] at h2;cases h1;cases h2;exact ⟨hgen, hmt⟩
        · exact ha j t' g' (by omega) h1 h2
    · have hng : ¬ ValG t g := fun h => hb.1 rfl h.1
      simp only
      repeat' (first|refine Sp.h ?_|refine Lk.r rfl ?_|refine Rf.mk rfl ?_|(apply Nm.r;focus repeat constructor)|fail)
      exact Fin.p rfl (vb (decide_eq_false (hbad hng)).symm)
  have hie : i = l.length := by omega
  subst hie
  repeat' (first|refine Sp.h ?_|refine Lk.r rfl ?_|refine Rf.mk rfl ?_|(apply Bd.f;(focus first|assumption|omega|exact Bool.false_ne_true))|(refine Im.mk ?_;intro _)|(apply Nm.r;focus repeat constructor)|fail)
  exact Fin.p rfl (vb (decide_eq_true (show ValL ts l from ⟨by omega, fun j t g h1 h2 => ha j t g (List.getElem?_eq_some_iff.1 h2).1 h1 h2⟩)).symm)
end Go.Proofs.YtmllihbhphnolaaGreat
namespace Go.CF
open Go
section
variable {P : Program} {tt : Nat → Option TI} {en : Nat → Bool} {n : Nat} {γ : Type} [Membership Nat γ] {fp : γ} {c : Cls} {d : Tmp} {ty t u : TypeId} {env : Env} {h : Heap} {N : Env → Heap → Prop} {x y z : Operand} {k1 k2 : IntKind}
theorem run_copyG (w : World) (dT sT ty elem : TypeId) {i : TypeInfo} (g o dLen dCap : Nat) (a : Addr) (sLen sCap : Nat) (cur : Array Value) (t : TypeId) (cs : List Value)
  (hu : P.underlying dT = some (.slice elem)) (hi : P.info? elem = some i) (hg : w.heap[g]? = some (.cells cur t (0, 0))) (hn : cs.length = Nat.min sLen dLen * i.size)
  (hsrc : ∀ j v, cs[j]? = some v → w.cell? (a.add j) = some v) (hfit : o + cs.length ≤ cur.size) (h1 : ∀ v ∈ cs, v.oneCell' = true) :
  (Builtin.copy_ #[dT, sT] ty #[.slice (some ⟨g, o, none⟩) dLen dCap, .slice (some a) sLen sCap]).run P w =
   .ok (goInt (Nat.min sLen dLen : Nat)) (w.setRow g (cur.toList.take o ++ cs ++ cur.toList.drop (o + cs.length)).toArray) := by
 have hst := run_storeCells_at P g o t cs 0 cur w hg (by simpa using hfit) h1
 have hf := run_firstCells_some (P := P) w i.size (Nat.min sLen dLen) a sLen sCap cs hn hsrc
 simp only [Nat.add_zero] at hst
 simp [Builtin.copy_, run_underlying hu, Builtin.lenOf, sizeOf, typeInfo, hi, hf, hst]
theorem run_copy0 (w : World) (dT sT ty elem : TypeId) {i : TypeInfo} (p q : Option Addr) (dLen dCap sLen sCap : Nat) (hu : P.underlying dT = some (.slice elem)) (hi : P.info? elem = some i) (hn : Nat.min sLen dLen = 0) :
  (Builtin.copy_ #[dT, sT] ty #[.slice p dLen dCap, .slice q sLen sCap]).run P w = .ok (goInt (0 : Nat)) w := by
 have hl : ∀ (a : Addr), (Builtin.firstCells i.size 0 (.slice (some a) sLen sCap)).run P w = .ok #[] w := fun a => by
  have := run_firstCells_some (P := P) w i.size 0 a sLen sCap [] (by simp) (by simp)
  simpa using this
 have hs : ∀ (a : Addr), (storeCells a []).run P w = .ok () w := fun a => by simp [storeCells]
 cases p <;> cases q <;> simp [Builtin.copy_, run_underlying hu, Builtin.lenOf, sizeOf, typeInfo, hi, hn, hl, hs, run_firstCells_none]
theorem ld_copy (G : PgOK P tt en) {ti te : TI} {e b o dl dc m : Nat} {l news : List Value} {xv : Value} {K : Value → Heap → Prop} (ht : tt t = some ti) (hk : ti.kind = .slice e) (hte : tt e = some te)
  (hx : ev env x = some (.slice (some ⟨b, o, none⟩) dl dc)) (hy : ev env y = some xv) (hb : Blk h b e l) (hs : Sl h xv m news) (hm : news.length = m * te.size) (h1 : ∀ v ∈ news.take (min m dl * te.size), v.oneCell' = true) (hfit : o + min m dl * te.size ≤ l.length)
  (k : ∀ h', h'.size = h.size → Upd h b e (l.take o ++ news.take (min m dl * te.size) ++ l.drop (o + min m dl * te.size)) h' → K (.int .i64 (min m dl : Nat)) h') : Ld P n (.call { callee := .builtin .copy, args := #[x, y], argTypes := #[t, u] }) ty env h K := by
 intro a w oo next Q ha hw hop hty hn
 obtain ⟨i, dd, hi, hd, hi1, hi2, hi3, _⟩ := (G.ok _ _ hte).ok
 have hu := (G.ok _ _ ht).slice hk
 unfold Oper.wp
 have fin : ∀ w', (Builtin.copy_ #[t, u] ty #[.slice (some ⟨b, o, none⟩) dl dc, xv]).run P w = .ok (goInt (min m dl : Nat)) w' → Same w w' → w'.heap.size = h.size → Upd h b e (l.take o ++ news.take (min m dl * te.size) ++ l.drop (o + min m dl * te.size)) w'.heap → oo.upon P a next Q ((execOp a.eval oo).run P w) := by
  intro w' hr hsm hsz hup
  have hrun : (execOp a.eval (mkOp (.call { callee := .builtin .copy, args := #[x, y], argTypes := #[t, u] }) ty)).run P w = .ok (.value (goInt (min m dl : Nat))) w' := by
   simp [mkOp, execOp, resolve, invoke, builtin, ha.ev hx, ha.ev hy, hr]
  rw [exec_mk, hop, hty, hrun]
  exact hn _ w' hsm (k w'.heap hsz hup)
 have zero : min m dl = 0 → oo.upon P a next Q ((execOp a.eval oo).run P w) := fun h0 => by
  obtain ⟨q, qc, rfl⟩ := hs.shape
  have hr := run_copy0 (P := P) w t u ty e (some ⟨b, o, none⟩) q dl dc m qc hu hi h0
  rw [← show min m dl = 0 from h0] at hr
  refine fin w hr (Same.refl w) (by rw [hw]) ?_
  rw [h0, Nat.zero_mul, List.take_zero, List.append_nil, Nat.add_zero, List.take_append_drop, hw]
  refine ⟨hb.lt, ?_⟩
  obtain ⟨hlt, hget⟩ := Array.getElem?_eq_some_iff.1 hb.get
  apply Array.ext
  ·simp
  ·intro q h1 h2
   rw [Array.getElem_setIfInBounds]
   split
   ·rename_i hq;subst hq;exact hget
   ·rfl
 rcases hs.ok with ⟨p, cap, rfl, h2, h3⟩|⟨b', o', cap, rfl, hpos, hcap, _, hc⟩
 ·exact zero (by simp;omega)
 ·rcases Nat.eq_zero_or_pos (min m dl) with h0|h0
  ·exact zero h0
  ·have hg : w.heap[b]? = some (.cells l.toArray e (0, 0)) := hb.heap hw
   have hmin : min m dl * te.size ≤ m * te.size := Nat.mul_le_mul_right _ (Nat.min_le_left _ _)
   have hlen : (news.take (min m dl * te.size)).length = min m dl * te.size := by rw [List.length_take];omega
   have hr := run_copyG (P := P) w t u ty e (i := i) b o dl dc ⟨b', o', none⟩ m cap l.toArray e (news.take (min m dl * te.size)) hu hi hg (by rw [hlen, hi1])
    (fun j v hv => by
     rw [List.getElem?_take] at hv
     split at hv
     ·exact (hc.get j v hv).get w hw
     ·cases hv) (by rw [hlen];simpa using hfit) h1
   refine fin _ hr ⟨rfl, rfl, rfl, by first|exact Nat.le_refl _|exact Nat.le_succ _⟩ (by simp [World.setRow_heap' hg, hw]) ⟨hb.lt, ?_⟩
   rw [World.setRow_heap' hg, hw, hlen]
theorem St.cap (G : PgOK P tt en) {ti : TI} {e len cap : Nat} {p : Option Addr} (ht : tt t = some ti) (hk : ti.kind = .slice e) (hx : ev env x = some (.slice p len cap)) (k : N ((d, .int .i64 (cap : Nat)) :: env) h) :
  St P n fp c (some d) (.call { callee := .builtin .cap, args := #[x], argTypes := #[t] }) ty env h N :=
 .ofPu (v := .int .i64 (cap : Nat)) (fun a w ha => by
  have hu := (G.ok _ _ ht).slice hk
  simp [mkOp, execOp, resolve, invoke, builtin, ha.ev hx, Builtin.cap_, run_underlying hu, goInt]) k
end
end Go.CF
namespace Go.CF
open Go
/-! ### Lists in parts -/
theorem flat_take {α : Type} {sz : Nat} : ∀ (rows : List (List α)) (a : Nat), (∀ r ∈ rows, r.length = sz) → (rows.take a).flatten = rows.flatten.take (a * sz)
 | [], a, _ => by simp
 | r :: rs, 0, _ => by simp
 | r :: rs, a + 1, h => by
  have h1 := h r (by simp)
  have h2 : (a + 1) * sz = sz + a * sz := by rw [Nat.add_mul];omega
  rw [List.take_succ_cons, List.flatten_cons, List.flatten_cons, flat_take rs a fun q hq => h q (by simp [hq]), List.take_append, h2, List.take_of_length_le (l := r) (by omega), h1, Nat.add_sub_cancel_left]
theorem flat_drop {α : Type} {sz : Nat} : ∀ (rows : List (List α)) (a : Nat), (∀ r ∈ rows, r.length = sz) → (rows.drop a).flatten = rows.flatten.drop (a * sz)
 | [], a, _ => by simp
 | r :: rs, 0, _ => by simp
 | r :: rs, a + 1, h => by
  have h1 := h r (by simp)
  have h2 : (a + 1) * sz = sz + a * sz := by rw [Nat.add_mul];omega
  rw [List.drop_succ_cons, List.flatten_cons, flat_drop rs a fun q hq => h q (by simp [hq]), List.drop_append, h2, List.drop_of_length_le (l := r) (by omega), h1, Nat.add_sub_cancel_left, List.nil_append]
theorem own_write {α : Type} {l X : List α} {of a k : Nat} (hx : a + X.length ≤ k) (hk : of + k ≤ l.length) : ((l.take (of + a) ++ X ++ l.drop (of + a + X.length)).drop of).take k = ((l.drop of).take k).take a ++ X ++ ((l.drop of).take k).drop (a + X.length) := by
 apply List.ext_getElem?
 intro q
 simp only [List.getElem?_append, List.getElem?_take, List.getElem?_drop, List.length_append, List.length_take, List.length_drop]
 by_cases h1 : q < k
 ·by_cases h2 : q < a
  ·simp [h1, h2, show of + q < of + a by omega, show of + q < l.length by omega, show min a (min k (l.length - of)) = a by omega, show min (of + a) l.length = of + a by omega, show q < a + X.length by omega]
   intros;omega
  ·by_cases h3 : q < a + X.length
   ·simp [h1, h2, h3, show ¬ of + q < of + a by omega, show min a (min k (l.length - of)) = a by omega, show min (of + a) l.length = of + a by omega, show of + q - (of + a) = q - a by omega]
    intros;omega
   ·simp [h1, h3, show min a (min k (l.length - of)) = a by omega, show min (of + a) l.length = of + a by omega, show ¬ of + q < of + a + X.length by omega, show of + a + X.length + (of + q - (of + a + X.length)) = of + (a + X.length + (q - (a + X.length))) by omega]
    omega
 ·simp [h1, show min a (min k (l.length - of)) = a by omega, show ¬ q < a + X.length by omega]
  omega
end Go.CF
namespace Go.CF
open Go
section
variable {Γ : Cx} {k : List KI} {e : EA} {o : List Res} {N : NA} {c : Cls} {d : Tmp} {ty : TypeId} {x y z : Operand} {t u : TypeId} {kk : IntKind} {i : Int}
/-! ### Capacity -/
def capV : Value → Nat
 | .slice _ _ c => c
 | _ => 0
structure Cpv (Γ : Cx) (c : Cls) (d : Tmp) (t : TypeId) (x : Operand) (ty : TypeId) (e : EA) (o : List Res) (N : NA) (a : AV) : Prop where
 h : evA e x = some a → SA Γ c (some d) (.call { callee := .builtin .cap, args := #[x], argTypes := #[t] }) ty e o N
instance : Sp (SA Γ c (some d) (.call { callee := .builtin .cap, args := #[x], argTypes := #[t] }) ty e o N) (Lk (evA e x) fun a => Cpv Γ c d t x ty e o N a) := ⟨fun ⟨_, ha, h⟩ => h.h ha⟩
instance {v : Value} : Sp (Cpv Γ c d t x ty e o N (.ow v)) (Lk (slE Γ.tt t) fun _ => TkA o v fun _ _ l _ _ => Im (l.length ≤ capV v) (N ((d, .val (.int .i64 (capV v : Nat))) :: e) o)) := ⟨fun ⟨p, hp, α, T, sz, l, f, rest, tk, hn⟩ => ⟨fun ha => ⟨fun env hh G Os cn => by
 obtain ⟨w, g1, rfl, q, len, cap, rfl⟩ := cn.get ha
 obtain ⟨O, Os', cn2⟩ := cn.take tk
 obtain ⟨⟨_, rows, hw, _⟩, _⟩ := cn2.hp.own
 obtain ⟨ti, t1, t2, _⟩ := slE_spec hp
 have hlc : l.length ≤ cap := by
  rcases hw.ok with ⟨e1, e2⟩|⟨b', of, cap', L, e1, _, _, e2, _⟩
  ·cases e1;omega
  ·cases e1;exact e2
 exact St.cap Γ.ok t1 t2 g1 (CN.mk (cn.put d (a := .val _) rfl) (hn.k hlc))⟩⟩⟩

/-! ### Rows of plain values -/
def valR (r : List Value) : List AV := r.map AV.val
theorem repT_val {h : Heap} {G : Nat → Prop} : ∀ {vs r : List Value}, RepT h G vs (valR r) → vs = r
 | [], [], _ => rfl
 | _ :: _, _ :: _, ⟨h1, h2⟩ => by
  have h1 : _ = _ := h1
  rw [h1, repT_val h2]
 | [], _ :: _, h => h.elim
 | _ :: _, [], h => h.elim
theorem repT_val' {h : Heap} {G : Nat → Prop} : ∀ r : List Value, RepT h G r (valR r)
 | [] => trivial
 | _ :: r => ⟨rfl, repT_val' r⟩
theorem rows_val {h : Heap} {G : Nat → Prop} {sz : Nat} {rows L : List (List Value)} (hr : Rows h G sz rows L valR) : rows = L := by
 apply List.ext_getElem?
 intro j
 by_cases hj : j < L.length
 ·obtain ⟨r, h1⟩ := List.getElem?_eq_some_iff.2 ⟨by rw [hr.len];exact hj, rfl⟩ |> fun h => (⟨_, h⟩ : ∃ r, rows[j]? = some r)
  obtain ⟨s, h2⟩ : ∃ s, L[j]? = some s := ⟨_, List.getElem?_eq_getElem hj⟩
  rw [h1, h2, repT_val (hr.row j r s h1 h2).t]
 ·rw [List.getElem?_eq_none (by rw [hr.len];omega), List.getElem?_eq_none (by omega)]
structure RowsV (sz : Nat) (L : List (List Value)) : Prop where
 sz : ∀ r ∈ L, r.length = sz
 one : ∀ r ∈ L, ∀ u ∈ r, u.oneCell' = true
theorem RowsV.of {h : Heap} {G : Nat → Prop} {sz : Nat} {rows L : List (List Value)} (hr : Rows h G sz rows L valR) : RowsV sz L := by
 have e := rows_val hr
 subst e
 refine ⟨hr.sz, fun r hm u hu => ?_⟩
 obtain ⟨j, hj⟩ := List.getElem?_of_mem hm
 exact (hr.row j r r hj hj).one u hu
theorem RowsV.rows {sz : Nat} {L : List (List Value)} (hv : RowsV sz L) (h : Heap) (G : Nat → Prop) : Rows h G sz L L valR :=
 ⟨rfl, fun j r s h1 h2 => by rw [h1] at h2;cases h2;exact ⟨repT_val' r, fun u hu => hv.one r (List.mem_of_getElem? h1) u hu⟩, hv.sz⟩
theorem RowsV.flen {sz : Nat} {L : List (List Value)} (hv : RowsV sz L) : L.flatten.length = L.length * sz := flat_len L hv.sz
def arrX (v : Value) (T : TypeId) (sz : Nat) (L : List (List Value)) (m : Nat) : Res :=
  ⟨fun h O _ => (∀ x, O x ↔ x ∈ blkOf v) ∧ RowsV sz L ∧ L.length ≤ m ∧ ∃ junk, Own h v T sz m (L.flatten ++ junk),
   fun x ⟨ho, hv, hl, junk, hb⟩ => ⟨ho, hv, hl, junk, by
      rcases hb.ok with h1|⟨b, of, cap, L', e, hbl, h1, h2, h3⟩
      · exact ⟨hb.len_vs, .inl h1⟩
      · exact ⟨hb.len_vs, .inr ⟨b, of, cap, L', e, ⟨(x.same b (.inl ((ho b).2 (by simp [e, blkOf]))) hbl.lt).trans hbl.get⟩, h1, h2, h3⟩⟩⟩,
   fun _ ⟨ho, hv, hl, junk, hb⟩ => ⟨ho, hv, hl, junk, hb⟩⟩
def AV.ox (v : Value) : AV := ⟨fun _ _ u => u = v ∧ ∃ p len cap, v = .slice p len cap, fun _ h => h, fun _ h => h⟩
theorem CA.toX {y : Code} (q : Tmp) {v : Value} {T sz : Nat} {L : List (List Value)} {rest : List Res} (ht : lookA e q = some (.ow v)) (tk : Take o (arrR v T sz L valR) rest) (h : L.length ≤ capV v → CA Γ k y ((q, .ox v) :: e) (arrX v T sz L L.length :: rest)) : CA Γ k y e o := by
 refine ⟨fun env hh G Os cn => ?_⟩
 obtain ⟨O, Os', cn2⟩ := cn.take tk
 obtain ⟨⟨ho, rows, hw, hr⟩, hrest⟩ := cn2.hp.own
 have hv := RowsV.of hr
 have e1 := rows_val hr
 subst e1
 have c3 : Con Γ ⟨e, arrX v T sz rows rows.length :: rest⟩ env hh G (O :: Os') := ⟨cn2.hp.perm ⟨⟨ho, hv, Nat.le_refl _, [], by rw [List.append_nil];exact hw⟩, hrest⟩ (List.Perm.refl _), cn2.env, cn2.nf⟩
 have hcap : rows.length ≤ capV v := by
  rcases hw.ok with ⟨e1, e2⟩|⟨b', of, cap', L, e1, _, _, e2, _⟩
  ·rw [e2];exact Nat.zero_le _
  ·rw [e1];exact e2
 exact (h hcap).h env hh G (O :: Os') (con_re (σ := ⟨e, arrX v T sz rows rows.length :: rest⟩) c3 q (fun w hw' => by
  obtain ⟨w', g1, g2⟩ := cn.env q _ ht
  rw [hw'] at g1;cases g1;exact g2) ht)
structure TkX (o : List Res) (v : Value) (k : TypeId → Nat → List (List Value) → Nat → List Res → Prop) : Prop where
 ok : ∃ T sz L m rest, Take o (arrX v T sz L m) rest ∧ k T sz L m rest
theorem TkX.r {o rest : List Res} {v : Value} {k : TypeId → Nat → List (List Value) → Nat → List Res → Prop} {T : TypeId} {sz m : Nat} {L : List (List Value)} (h : Take o (arrX v T sz L m) rest) (hk : k T sz L m rest) : TkX o v k := ⟨T, sz, L, m, rest, h, hk⟩
instance {q : Operand} {v : Value} : Sp (Slp Γ c d t x (some q) none ty e o N (.ox v)) (Lk (slE Γ.tt t) fun p => TkX o v fun _ sz _ m _ => Rf (p.2.size = sz) (Lk (evA e q) fun a => Nb a fun i => Jx i m fun j => N ((d, .os v sz j (m - j)) :: e) o)) := ⟨fun ⟨p, hp, T, sz, L, m, rest, tk, hz, a, ha2, kk, i, hk, j, hij, hjm, hn⟩ => ⟨fun ha => ⟨fun env hh G Os cn => by
 obtain ⟨w, g1, rfl, q', len, cap, rfl⟩ := cn.get ha
 obtain ⟨O, Os', cn2⟩ := cn.take tk
 obtain ⟨⟨_, _, _, junk, hw⟩, _⟩ := cn2.hp.own
 have hlc : len = m ∧ m ≤ cap := by
  rcases hw.ok with ⟨e1, e2⟩|⟨b', of, cap', L', e1, _, _, e2, _⟩
  ·cases e1;omega
  ·cases e1;exact ⟨rfl, e2⟩
 obtain ⟨rfl, hlc⟩ := hlc
 exact slice_at (lo := some q) (hi := none) cn hp g1 hjm (Nat.le_refl _) hlc ⟨kk, i, hk ▸ ha2, hij⟩ rfl (CN.mk (cn.put d (a := .os _ sz j (len - j)) ⟨q', _, cap, rfl, by omega, by rw [hz]⟩) hn) (.inl (by simp))⟩⟩⟩
def reV : Value → Nat → Value
 | .slice p _ c, m => .slice (subA p 0 0 c) m c
 | v, _ => v
structure ExX (i : Int) (L m : Nat) (cp : Nat) (A X : Nat → Prop) : Prop where
 ok : ∃ j : Nat, i = (j : Int) ∧ j ≤ cp ∧ ((j ≤ L ∧ A j) ∨ (L ≤ j ∧ X j))
theorem ExX.short {i : Int} {L m cp : Nat} {A X : Nat → Prop} {j : Nat} (h : i = (j : Int)) (h1 : j ≤ cp) (h2 : j ≤ L) (hk : A j) : ExX i L m cp A X := ⟨j, h, h1, .inl ⟨h2, hk⟩⟩
theorem ExX.long {i : Int} {L m cp : Nat} {A X : Nat → Prop} {j : Nat} (h : i = (j : Int)) (h1 : j ≤ cp) (h2 : L ≤ j) (hk : X j) : ExX i L m cp A X := ⟨j, h, h1, .inr ⟨h2, hk⟩⟩
theorem subA_zero {p : Option Addr} {sz cap : Nat} (hp : ∀ a, p = some a → a.spot = none) : subA p sz 0 cap = p := by
 unfold subA
 split
 ·rfl
 ·cases p with
  | none => rfl
  | some a =>
   have := hp a rfl
   obtain ⟨b, of, sp⟩ := a
   simp only at this
   subst this
   simp [addr_add]
theorem own_short {h : Heap} {p : Option Addr} {len cap T sz m : Nat} {R : List Value} (hw : Own h (.slice p len cap) T sz len R) (hm : m ≤ len) : Own h (.slice p m cap) T sz m (R.take (m * sz)) := by
 have hl := hw.len_vs
 have hms : m * sz ≤ len * sz := Nat.mul_le_mul_right _ hm
 refine ⟨by rw [List.length_take];omega, ?_⟩
 rcases hw.ok with ⟨e1, e2⟩|⟨b, of, cap', l, e1, hb, h1, h2, h3⟩
 ·cases e1
  exact .inl ⟨by rw [show m = 0 by omega], by omega⟩
 ·cases e1
  exact .inr ⟨b, of, cap, l, rfl, hb, h1, by omega, by rw [← h3, List.take_take, Nat.min_eq_left hms]⟩
theorem own_long {h : Heap} {p : Option Addr} {len cap T sz m : Nat} {R : List Value} (hw : Own h (.slice p len cap) T sz len R) (hm : len ≤ m) (hc : m ≤ cap) : ∃ junk, Own h (.slice p m cap) T sz m (R ++ junk) := by
 have hl := hw.len_vs
 have hms : len * sz ≤ m * sz := Nat.mul_le_mul_right _ hm
 rcases hw.ok with ⟨e1, e2⟩|⟨b, of, cap', l, e1, hb, h1, h2, h3⟩
 ·cases e1
  obtain rfl : m = 0 := by omega
  exact ⟨[], by simpa using hw⟩
 ·cases e1
  have hmc : m * sz ≤ cap * sz := Nat.mul_le_mul_right _ hc
  refine ⟨(l.drop (of + len * sz)).take (m * sz - len * sz), ?_, .inr ⟨b, of, cap, l, rfl, hb, h1, hc, ?_⟩⟩
  ·rw [List.length_append, hl, List.length_take, List.length_drop];omega
  ·rw [← h3, ← List.drop_drop, show m * sz = len * sz + (m * sz - len * sz) by omega, List.take_add]
   simp
theorem own_spot {h : Heap} {p : Option Addr} {len cap T sz m : Nat} {R : List Value} (hw : Own h (.slice p len cap) T sz m R) : ∀ a, p = some a → a.spot = none := by
 intro a ha
 rcases hw.ok with ⟨e1, e2⟩|⟨b, of, cap', l, e1, _⟩
 ·cases e1;cases ha
 ·cases e1;cases ha;rfl
instance {q : Operand} {v : Value} : Sp (Slp Γ c d t x none (some q) ty e o N (.ox v)) (Lk (slE Γ.tt t) fun p => TkX o v fun T sz L m rest => Rf (p.2.size = sz) (Lk (evA e q) fun a => Nb a fun i =>
  ExX i L.length m (capV v) (fun j => N ((d, .ow (reV v j)) :: e) (arrR (reV v j) T sz (L.take j) valR :: rest)) (fun j => N ((d, .ox (reV v j)) :: e) (arrX (reV v j) T sz L j :: rest)))) := ⟨fun ⟨p, hp, T, sz, L, m, rest, tk, hz, a, ha2, kk, i, hk, j, hij, hjc, hn⟩ => ⟨fun ha => ⟨fun env hh G Os cn => by
 obtain ⟨w, g1, rfl, q', len, cap, rfl⟩ := cn.get ha
 obtain ⟨O, Os', cn2⟩ := cn.take tk
 obtain ⟨⟨ho, hv, hLm, junk, hw⟩, hrest⟩ := cn2.hp.own
 obtain ⟨ti, t1, t2, t3⟩ := slE_spec hp
 have hlc : len = m := by
  rcases hw.ok with ⟨e1, e2⟩|⟨b', of, cap', L', e1, _, _, e2, _⟩
  ·cases e1;omega
  ·cases e1;rfl
 subst hlc
 have hsp := own_spot hw
 have hre : subA q' 0 0 cap = q' := subA_zero hsp
 have hre2 : subA q' p.2.size 0 cap = q' := subA_zero hsp
 have hq : evA e q = some (.val (.int kk i)) := hk ▸ ha2
 obtain ⟨vq, hq1, hq2⟩ := cn.get hq
 have hq2 : vq = _ := hq2
 subst hq2
 have hblk : ∀ b, b ∈ blkOf (Value.slice q' j cap) ↔ b ∈ blkOf (Value.slice q' len cap) := by intro b;cases q' <;> simp [blkOf]
 have hev : reV (.slice q' len cap) j = .slice q' j cap := by simp only [reV, hre]
 rw [hev] at hn
 refine St.sliceH Γ.ok t1 t2 t3 g1 hq1 hij hjc ?_
 rw [hre2]
 rcases hn with ⟨hjL, hn⟩|⟨hjL, hn⟩
 ·have hsh := own_short hw (show j ≤ len by omega)
  have hfl := hv.flen
  have hjs : j * sz ≤ L.length * sz := Nat.mul_le_mul_right _ hjL
  have he : (L.flatten ++ junk).take (j * sz) = (L.take j).flatten := by
   rw [flat_take L j hv.sz, List.take_append_of_le_length (by omega)]
  rw [he] at hsh
  have hvt : RowsV sz (L.take j) := ⟨fun r hr => hv.sz r (List.mem_of_mem_take hr), fun r hr => hv.one r (List.mem_of_mem_take hr)⟩
  have c3 : Con Γ ⟨e, arrR (.slice q' j cap) T sz (L.take j) valR :: rest⟩ env hh G (O :: Os') := ⟨cn2.hp.perm ⟨⟨fun b => (ho b).trans (hblk b).symm, L.take j, by rw [List.length_take, Nat.min_eq_left hjL];exact hsh, hvt.rows hh G⟩, hrest⟩ (List.Perm.refl _), cn2.env, cn2.nf⟩
  exact CN.mk (c3.put d (a := .ow _) ⟨rfl, _, _, _, rfl⟩) hn
 ·by_cases hjl : j ≤ len
  ·have hsh := own_short hw hjl
   have hfl := hv.flen
   have hjs : L.length * sz ≤ j * sz := Nat.mul_le_mul_right _ hjL
   rw [List.take_append, List.take_of_length_le (by omega)] at hsh
   have c3 : Con Γ ⟨e, arrX (.slice q' j cap) T sz L j :: rest⟩ env hh G (O :: Os') := ⟨cn2.hp.perm ⟨⟨fun b => (ho b).trans (hblk b).symm, hv, hjL, _, hsh⟩, hrest⟩ (List.Perm.refl _), cn2.env, cn2.nf⟩
   exact CN.mk (c3.put d (a := .ox _) ⟨rfl, _, _, _, rfl⟩) hn
  ·obtain ⟨jk, hlg⟩ := own_long hw (show len ≤ j by omega) hjc
   have c3 : Con Γ ⟨e, arrX (.slice q' j cap) T sz L j :: rest⟩ env hh G (O :: Os') := ⟨cn2.hp.perm ⟨⟨fun b => (ho b).trans (hblk b).symm, hv, hjL, junk ++ jk, by rw [← List.append_assoc];exact hlg⟩, hrest⟩ (List.Perm.refl _), cn2.env, cn2.nf⟩
   exact CN.mk (c3.put d (a := .ox _) ⟨rfl, _, _, _, rfl⟩) hn⟩⟩⟩
end
end Go.CF
namespace Go.CF
open Go
section
variable {P : Program} {tt : Nat → Option TI} {en : Nat → Bool} {n : Nat} {ty t u : TypeId} {env : Env} {h : Heap} {x y : Operand}
theorem ld_copy0 (G : PgOK P tt en) {ti te : TI} {e dl dc m : Nat} {p : Option Addr} {news : List Value} {xv : Value} {K : Value → Heap → Prop} (ht : tt t = some ti) (hk : ti.kind = .slice e) (hte : tt e = some te)
  (hx : ev env x = some (.slice p dl dc)) (hy : ev env y = some xv) (hs : Sl h xv m news) (hm : min m dl = 0) (k : K (.int .i64 (0 : Nat)) h) : Ld P n (.call { callee := .builtin .copy, args := #[x, y], argTypes := #[t, u] }) ty env h K := by
 intro a w oo next Q ha hw hop hty hn
 obtain ⟨i, dd, hi, hd, hi1, hi2, hi3, _⟩ := (G.ok _ _ hte).ok
 have hu := (G.ok _ _ ht).slice hk
 obtain ⟨q, qc, rfl⟩ := hs.shape
 have hr := run_copy0 (P := P) w t u ty e p q dl dc m qc hu hi hm
 have hrun : (execOp a.eval (mkOp (.call { callee := .builtin .copy, args := #[x, y], argTypes := #[t, u] }) ty)).run P w = .ok (.value (goInt (0 : Nat))) w := by
  simp [mkOp, execOp, resolve, invoke, builtin, ha.ev hx, ha.ev hy, hr]
 unfold Oper.wp
 rw [exec_mk, hop, hty, hrun]
 exact hn _ w (Same.refl w) (hw ▸ k)
end
section
variable {Γ : Cx} {k : List KI} {e : EA} {o : List Res} {N : NA} {c : Cls} {d : Tmp} {ty : TypeId} {x y z : Operand} {t u : TypeId} {kk : IntKind} {i : Int}
structure Cpy (Γ : Cx) (c : Cls) (d : Tmp) (t u : TypeId) (x y : Operand) (ty : TypeId) (e : EA) (o : List Res) (N : NA) (a b : AV) : Prop where
 h : evA e x = some a → evA e y = some b → isLoud c = true → SA Γ c (some d) (.call { callee := .builtin .copy, args := #[x, y], argTypes := #[t, u] }) ty e o N
instance : Sp (SA Γ c (some d) (.call { callee := .builtin .copy, args := #[x, y], argTypes := #[t, u] }) ty e o N) (Rf (isLoud c = true) (Lk (evA e x) fun a => Lk (evA e y) fun b => Cpy Γ c d t u x y ty e o N a b)) := ⟨fun ⟨hc, _, ha, _, hb, h⟩ => h.h ha hb hc⟩
theorem own_seg {h h' : Heap} {b of cap len T sz : Nat} {l X : List Value} {R : List Value} {j cnt : Nat} (hw : Own h (.slice (some ⟨b, of, none⟩) len cap) T sz len R) (hX : X.length = cnt * sz) (hj : j + cnt ≤ len)
  (hu : Upd h b T (l.take (of + j * sz) ++ X ++ l.drop (of + j * sz + cnt * sz)) h') (hfit : of + cap * sz ≤ l.length) (hlc : len ≤ cap) (hR : (l.drop of).take (len * sz) = R) : Own h' (.slice (some ⟨b, of, none⟩) len cap) T sz len (R.take (j * sz) ++ X ++ R.drop (j * sz + cnt * sz)) := by
 have hjs : j * sz + cnt * sz ≤ len * sz := by rw [← Nat.add_mul];exact Nat.mul_le_mul_right _ hj
 have hls : len * sz ≤ cap * sz := Nat.mul_le_mul_right _ hlc
 have hl := hw.len_vs
 refine ⟨by simp only [List.length_append, List.length_take, List.length_drop];omega, .inr ⟨b, of, cap, _, rfl, hu.blk, ?_, hlc, ?_⟩⟩
 ·simp only [List.length_append, List.length_take, List.length_drop];omega
 ·rw [← hX, own_write (by rw [hX];exact hjs) (by omega), hR]
theorem Upd.fpx {h h' : Heap} {b : Nat} {T : TypeId} {l : List Value} (hu : Upd h b T l h') {O : Nat → Prop} (ho : O b) : FPx (fun y => ¬ O y) h h' :=
 ⟨hu.stp.size, fun y hy hl => hu.stp.same y hl (fun hm => hy (by rw [List.mem_singleton.1 hm];exact ho))⟩
theorem con_seg {h' : Heap} {hh : Heap} {env : Env} {G : Nat → Prop} {R R' : Res} {rest : List Res} {O : Nat → Prop} {Os : List (Nat → Prop)} {b : Nat} {T : TypeId} {l : List Value} (cn : Con Γ ⟨e, R :: rest⟩ env hh G (O :: Os)) (hu : Upd hh b T l h') (ho : O b) (hr : FPx G hh h' → R'.R h' O G) : Con Γ ⟨e, R' :: rest⟩ env h' G (O :: Os) := by
 have hx := hu.fpx ho
 have hg : FPx G hh h' := hx.mono fun y hy hoy => (cn.hp.o O (by simp) y hoy).2.2 hy
 exact cn.upd (R' := R') (O' := O) hx (fun y hy => ⟨Nat.lt_of_lt_of_le (cn.hp.o O (by simp) y hy).1 hu.stp.size, .inl hy⟩) (hr hg)
instance {v : Value} {s j m : Nat} {b : AV} : Sp (Cpy Γ c d t u x y ty e o N (.os v s j m) b) (Lk (slE Γ.tt t) fun p => Src o b p.2.size fun q g => TkA o v fun T sz l f rest => Rf (T = p.1 ∧ sz = p.2.size ∧ s = sz) (Mp q g f fun q' =>
  N ((d, .val (.int .i64 (min q'.length m : Nat))) :: e) (arrR v T sz (l.take j ++ q'.take (min q'.length m) ++ l.drop (j + min q'.length m)) f :: rest))) := ⟨fun ⟨p, hp, β, q, g, ⟨α, T, sz, l, f, rest, tk, ⟨hT, hz, hs⟩, q', hq', hn⟩, hsrc⟩ => ⟨fun ha hb hc => ⟨fun env hh G Os cn => by
 obtain ⟨w, g1, p0, len, cap, rfl, hjm, rfl⟩ := cn.get ha
 obtain ⟨w2, g2, r2⟩ := cn.get hb
 obtain ⟨srows, hsl, hsr⟩ := hsrc cn.hp r2
 have hql : q'.length = q.length := by have := congrArg List.length hq';simpa using this
 have hsr' := hsr.map hq'
 subst hs;subst hT;subst hz
 obtain ⟨ti, t1, t2, t3⟩ := slE_spec hp
 obtain ⟨O, Os', cn2⟩ := cn.take tk
 obtain ⟨⟨ho, rows, hw, hr⟩, hrest⟩ := cn2.hp.own
 by_cases h0 : min q'.length m = 0
 ·refine .ofLd hc (ld_copy0 Γ.ok t1 t2 t3 g1 g2 hsl (by rw [← hql];exact h0) ?_)
  rw [h0, List.take_zero, List.append_nil, Nat.add_zero, List.take_append_drop] at hn
  exact CN.mk (cn2.put d (a := .val (.int .i64 (0 : Nat))) rfl) hn
 ·rcases hw.ok with ⟨e1, e2⟩|⟨b, of, cap', L, e1, hbk, h1, h2, h3⟩
  ·cases e1;omega
  ·cases e1
   have hsub : subA (some ⟨b, of, none⟩) p.2.size j cap = some ⟨b, of + j * p.2.size, none⟩ := by
    unfold subA;rw [if_neg (by omega)];simp [addr_add]
   rw [hsub] at g1
   have hlen := hw.len_vs
   have hssz := hsr.sz
   have hsfl : srows.flatten.length = q.length * p.2.size := by rw [hsr.flen]
   have hmin : min q'.length m * p.2.size ≤ q.length * p.2.size := Nat.mul_le_mul_right _ (by omega)
   have hjs : j * p.2.size + min q'.length m * p.2.size ≤ l.length * p.2.size := by rw [← Nat.add_mul];exact Nat.mul_le_mul_right _ (by omega)
   have hls : l.length * p.2.size ≤ cap * p.2.size := Nat.mul_le_mul_right _ h2
   refine .ofLd hc (ld_copy Γ.ok t1 t2 t3 g1 g2 hbk hsl hsfl (fun v hv => hsr.one v (List.mem_of_mem_take hv)) (by rw [← hql];omega) fun h' hsz hu => ?_)
   rw [← hql] at hu ⊢
   have hob : O b := (ho b).2 (by simp [blkOf])
   have hX : (srows.flatten.take (min q'.length m * p.2.size)).length = min q'.length m * p.2.size := by rw [List.length_take];omega
   have hown := own_seg (j := j) hw hX (by omega) hu h1 h2 h3
   have hlen2 : (l.take j ++ q'.take (min q'.length m) ++ l.drop (j + min q'.length m)).length = l.length := by simp;omega
   have hfl : (rows.take j ++ srows.take (min q'.length m) ++ rows.drop (j + min q'.length m)).flatten = rows.flatten.take (j * p.2.size) ++ srows.flatten.take (min q'.length m * p.2.size) ++ rows.flatten.drop (j * p.2.size + min q'.length m * p.2.size) := by
    rw [List.flatten_append, List.flatten_append, flat_take rows j hr.sz, flat_take srows _ hssz, flat_drop rows _ hr.sz, Nat.add_mul]
   have c3 := con_seg (R' := arrR (.slice (some ⟨b, of, none⟩) l.length cap) p.1 p.2.size (l.take j ++ q'.take (min q'.length m) ++ l.drop (j + min q'.length m)) f) cn2 hu hob (fun hg => ⟨ho, rows.take j ++ srows.take (min q'.length m) ++ rows.drop (j + min q'.length m), by rw [hlen2, hfl];exact hown, (((hr.take j).app (hsr'.take _)).app (hr.drop _)).stp hg⟩)
   exact CN.mk (c3.put d (a := .val _) rfl) hn⟩⟩⟩
end
end Go.CF
namespace Go.CF
open Go
section
variable {Γ : Cx} {k : List KI} {e : EA} {o : List Res} {N : NA} {c : Cls} {d : Tmp} {ty : TypeId} {x y z : Operand} {t u : TypeId} {kk : IntKind} {i : Int}
structure CpS (o : List Res) (v : Value) (A : Prop) (X : TypeId → Nat → List (List Value) → Nat → List Res → Prop) : Prop where
 ok : A ∨ ∃ T sz L m rest, Take o (arrX v T sz L m) rest ∧ X T sz L m rest
theorem CpS.all {α : Type} {o rest : List Res} {v : Value} {A : Prop} {X : TypeId → Nat → List (List Value) → Nat → List Res → Prop} {T : TypeId} {sz : Nat} {l : List α} {f : α → List AV} (_ : Take o (arrR v T sz l f) rest) (h : A) : CpS o v A X := ⟨.inl h⟩
theorem CpS.part {o rest : List Res} {v : Value} {A : Prop} {X : TypeId → Nat → List (List Value) → Nat → List Res → Prop} {T : TypeId} {sz m : Nat} {L : List (List Value)} (tk : Take o (arrX v T sz L m) rest) (h : X T sz L m rest) : CpS o v A X := ⟨.inr ⟨T, sz, L, m, rest, tk, h⟩⟩
structure Cpg (Γ : Cx) (c : Cls) (d : Tmp) (t u : TypeId) (x y : Operand) (ty : TypeId) (e : EA) (o : List Res) (N : NA) (v : Value) (s j m : Nat) (b : AV) : Prop where
 h : Lk (slE Γ.tt t) fun p => Src o b p.2.size fun q g => TkA o v fun T sz l f rest => Rf (T = p.1 ∧ sz = p.2.size ∧ s = sz) (Mp q g f fun q' =>
  N ((d, .val (.int .i64 (min q'.length m : Nat))) :: e) (arrR v T sz (l.take j ++ q'.take (min q'.length m) ++ l.drop (j + min q'.length m)) f :: rest))
instance {v : Value} {s j m : Nat} {b : AV} : Sp (Cpg Γ c d t u x y ty e o N v s j m b) (Lk (slE Γ.tt t) fun p => Src o b p.2.size fun q g => TkA o v fun T sz l f rest => Rf (T = p.1 ∧ sz = p.2.size ∧ s = sz) (Mp q g f fun q' =>
  N ((d, .val (.int .i64 (min q'.length m : Nat))) :: e) (arrR v T sz (l.take j ++ q'.take (min q'.length m) ++ l.drop (j + min q'.length m)) f :: rest))) := ⟨fun h => ⟨h⟩⟩
instance (priority := 1100) {v : Value} {s j m s' j' m' : Nat} : Sp (Cpy Γ c d t u x y ty e o N (.os v s j m) (.os v s' j' m')) (CpS o v (Cpg Γ c d t u x y ty e o N v s j m (.os v s' j' m')) fun T sz L M rest => Lk (slE Γ.tt t) fun p => Rf (T = p.1 ∧ sz = p.2.size ∧ s = sz) (Rf (s' = sz)
  (Om (j' + min m' m ≤ L.length ∧ j ≤ L.length ∧ j + min m' m = M) (N ((d, .val (.int .i64 (min m' m : Nat))) :: e) (arrR v T sz (L.take j ++ (L.drop j').take (min m' m)) valR :: rest))))) := ⟨fun ⟨hor⟩ => by
 rcases hor with hA|⟨T, sz, L, M, rest, tk, p, hp, ⟨hT, hz, hs⟩, hs', ⟨hc1, hc2, hc3⟩, hn⟩
 ·exact Sp.h hA.h
 ·subst hs;subst hT;subst hz;subst hs'
  refine ⟨fun ha hb hc => ⟨fun env hh G Os cn => ?_⟩⟩
  obtain ⟨w, g1, p0, len, cap, rfl, hjm, rfl⟩ := cn.get ha
  obtain ⟨w2, g2, p1, len1, cap1, e2, hjm2, rfl⟩ := cn.get hb
  cases e2
  obtain ⟨ti, t1, t2, t3⟩ := slE_spec hp
  obtain ⟨O, Os', cn2⟩ := cn.take tk
  obtain ⟨⟨ho, hv, hLM, junk, hw⟩, hrest⟩ := cn2.hp.own
  rcases hw.ok with ⟨e1, e2⟩|⟨b, of, cap', l, e1, hbk, h1, h2, h3⟩
  ·cases e1
   have hL0 : L.length = 0 := by omega
   have hm0 : min m' m = 0 := by omega
   refine .ofLd hc (ld_copy0 Γ.ok t1 t2 t3 g1 g2 (m := m') (news := []) ⟨.inl ⟨_, _, by rw [show m' = 0 by omega], by omega, rfl⟩⟩ hm0 ?_)
   have hLn : L = [] := List.eq_nil_of_length_eq_zero hL0
   subst hLn
   rw [hm0, List.take_nil, List.drop_nil, List.take_nil, List.append_nil] at hn
   have hM : M = 0 := by omega
   subst hM
   have c3 : Con Γ ⟨e, arrR (.slice none 0 0) p.1 p.2.size [] valR :: rest⟩ env hh G (O :: Os') := ⟨cn2.hp.perm ⟨⟨ho, [], by simpa using (Own.nil : Own hh _ p.1 p.2.size 0 []), Rows.nil⟩, hrest⟩ (List.Perm.refl _), cn2.env, cn2.nf⟩
   exact CN.mk (c3.put d (a := .val (.int .i64 (0 : Nat))) rfl) hn
  ·cases e1
   have hfl := hv.flen
   have hlen := hw.len_vs
   have hMs : L.length * p.2.size ≤ M * p.2.size := Nat.mul_le_mul_right _ hLM
   have hMc : M * p.2.size ≤ cap * p.2.size := Nat.mul_le_mul_right _ h2
   by_cases h0 : min m' m = 0
   ·have hjM : j = M := by omega
    have hLe : L.length = M := by omega
    have hr0 : ∃ news, Sl hh (.slice (subA (some ⟨b, of, none⟩) p.2.size j' cap) m' (cap - j')) m' news := by
     rcases Nat.eq_zero_or_pos m' with hz|hz
     ·exact ⟨[], ⟨.inl ⟨_, _, by rw [hz], hz, rfl⟩⟩⟩
     ·refine ⟨(l.drop (of + j' * p.2.size)).take (m' * p.2.size), ⟨.inr ⟨b, of + j' * p.2.size, cap - j', ?_, hz, by omega, hbk.lt, hbk.cels _ _⟩⟩⟩
      unfold subA;rw [if_neg (by omega)];simp [addr_add]
    obtain ⟨news, hsl⟩ := hr0
    refine .ofLd hc (ld_copy0 Γ.ok t1 t2 t3 g1 g2 hsl h0 ?_)
    rw [h0, List.take_zero, List.append_nil, List.take_of_length_le (by omega)] at hn
    have hjk : junk = [] := List.eq_nil_of_length_eq_zero (by rw [List.length_append] at hlen;rw [hLe] at hfl;omega)
    subst hjk
    have c3 : Con Γ ⟨e, arrR (.slice (some ⟨b, of, none⟩) M cap) p.1 p.2.size L valR :: rest⟩ env hh G (O :: Os') := ⟨cn2.hp.perm ⟨⟨ho, L, by rw [hLe];simpa using hw, hv.rows hh G⟩, hrest⟩ (List.Perm.refl _), cn2.env, cn2.nf⟩
    exact CN.mk (c3.put d (a := .val (.int .i64 (0 : Nat))) rfl) hn
   ·have hsub : ∀ q, q < cap → subA (some ⟨b, of, none⟩) p.2.size q cap = some ⟨b, of + q * p.2.size, none⟩ := fun q hq => by
     unfold subA;rw [if_neg (by omega)];simp [addr_add]
    rw [hsub j (by omega)] at g1
    rw [hsub j' (by omega)] at g2
    have hjs : j' * p.2.size + min m' m * p.2.size ≤ L.length * p.2.size := by rw [← Nat.add_mul];exact Nat.mul_le_mul_right _ hc1
    have hjd : j * p.2.size + min m' m * p.2.size = M * p.2.size := by rw [← Nat.add_mul, hc3]
    have hm's : min m' m * p.2.size ≤ m' * p.2.size := Nat.mul_le_mul_right _ (by omega)
    -- what is read
    have hseg : ((l.drop (of + j' * p.2.size)).take (m' * p.2.size)).take (min m' m * p.2.size) = (L.flatten.drop (j' * p.2.size)).take (min m' m * p.2.size) := by
     have e9 : L.flatten = ((l.drop of).take (M * p.2.size)).take (L.length * p.2.size) := by rw [h3, ← hfl, List.take_left]
     rw [e9]
     simp only [List.take_take, List.drop_take, List.drop_drop]
     congr 1
     omega
    have hm'l : of + j' * p.2.size + m' * p.2.size ≤ l.length := by
     have : j' * p.2.size + m' * p.2.size ≤ M * p.2.size := by rw [← Nat.add_mul];exact Nat.mul_le_mul_right _ (by omega)
     omega
    have hsrc : Sl hh (.slice (some ⟨b, of + j' * p.2.size, none⟩) m' (cap - j')) m' ((l.drop (of + j' * p.2.size)).take (m' * p.2.size)) := ⟨.inr ⟨b, of + j' * p.2.size, cap - j', rfl, by omega, by omega, hbk.lt, hbk.cels _ _⟩⟩
    have hX1 : ((L.flatten.drop (j' * p.2.size)).take (min m' m * p.2.size)).length = min m' m * p.2.size := by rw [List.length_take, List.length_drop];omega
    have hone : ∀ w ∈ L.flatten, w.oneCell' = true := fun w hw => by
     obtain ⟨r, hr, hw⟩ := List.mem_flatten.1 hw
     exact hv.one r hr w hw
    refine .ofLd hc (ld_copy Γ.ok t1 t2 t3 g1 g2 hbk hsrc (by rw [List.length_take, List.length_drop];omega) (fun w hw => by rw [hseg] at hw;exact hone w (List.mem_of_mem_drop (List.mem_of_mem_take hw))) (by omega) fun h' hsz hu => ?_)
    rw [hseg] at hu
    have hob : O b := (ho b).2 (by simp [blkOf])
    have hown := own_seg (j := j) hw hX1 (by omega) hu h1 h2 h3
    have hLj : j * p.2.size ≤ L.length * p.2.size := Nat.mul_le_mul_right _ hc2
    rw [List.take_append_of_le_length (by omega), List.drop_of_length_le (l := L.flatten ++ junk) (by rw [hlen];omega), List.append_nil] at hown
    have hvn : RowsV p.2.size (L.take j ++ (L.drop j').take (min m' m)) := ⟨fun r hr => by
      rcases List.mem_append.1 hr with h|h
      ·exact hv.sz r (List.mem_of_mem_take h)
      ·exact hv.sz r (List.mem_of_mem_drop (List.mem_of_mem_take h)), fun r hr => by
      rcases List.mem_append.1 hr with h|h
      ·exact hv.one r (List.mem_of_mem_take h)
      ·exact hv.one r (List.mem_of_mem_drop (List.mem_of_mem_take h))⟩
    have hfl2 : (L.take j ++ (L.drop j').take (min m' m)).flatten = L.flatten.take (j * p.2.size) ++ (L.flatten.drop (j' * p.2.size)).take (min m' m * p.2.size) := by
     rw [List.flatten_append, flat_take L j hv.sz, flat_take _ _ (fun r hr => hv.sz r (List.mem_of_mem_drop hr)), flat_drop L _ hv.sz]
    have hln : (L.take j ++ (L.drop j').take (min m' m)).length = M := by simp;omega
    have c3 := con_seg (R' := arrR (.slice (some ⟨b, of, none⟩) M cap) p.1 p.2.size (L.take j ++ (L.drop j').take (min m' m)) valR) cn2 hu hob (fun _ => ⟨ho, _, by rw [hln, hfl2];exact hown, hvn.rows h' G⟩)
    exact CN.mk (c3.put d (a := .val _) rfl) hn⟩
end
end Go.CF
namespace Go.CF
open Go
section
variable {Γ : Cx} {k : List KI} {e : EA} {o : List Res} {N : NA} {c : Cls} {d : Tmp} {ty : TypeId} {x y z : Operand} {t u : TypeId} {kk : IntKind} {i : Int}
structure Clr (Γ : Cx) (c : Cls) (t : TypeId) (x : Operand) (ty : TypeId) (e : EA) (o : List Res) (N : NA) (a : AV) : Prop where
 h : evA e x = some a → isLoud c = true → SA Γ c none (.call { callee := .builtin .clear, args := #[x], argTypes := #[t] }) ty e o N
instance : Sp (SA Γ c none (.call { callee := .builtin .clear, args := #[x], argTypes := #[t] }) ty e o N) (Rf (isLoud c = true) (Lk (evA e x) fun a => Clr Γ c t x ty e o N a)) := ⟨fun ⟨hc, _, ha, h⟩ => h.h ha hc⟩
instance {v : Value} {s j m : Nat} : Sp (Clr Γ c t x ty e o N (.os v s j m)) (Lk (slE Γ.tt t) fun p => TkX o v fun T sz L M rest => Rf (T = p.1 ∧ sz = p.2.size ∧ s = sz) (Rf (p.2.zero.cells.toList.all Value.oneCell' = true ∧ p.2.zero.cells.size = p.2.size) (Om (0 < m ∧ j ≤ L.length) (N e (arrX v T sz (L.take j) M :: rest))))) := ⟨fun ⟨p, hp, T, sz, L, M, rest, tk, ⟨hT, hz, hs⟩, ⟨hz1, hz2⟩, ⟨hm, hjL⟩, hn⟩ => ⟨fun ha hc => ⟨fun env hh G Os cn => by
 subst hs;subst hT;subst hz
 obtain ⟨w, g1, p0, len, cap, rfl, hjm, rfl⟩ := cn.get ha
 obtain ⟨ti, t1, t2, t3⟩ := slE_spec hp
 obtain ⟨O, Os', cn2⟩ := cn.take tk
 obtain ⟨⟨ho, hv, hLM, junk, hw⟩, hrest⟩ := cn2.hp.own
 rcases hw.ok with ⟨e1, e2⟩|⟨b, of, cap', l, e1, hbk, h1, h2, h3⟩
 ·cases e1;omega
 ·cases e1
  obtain ⟨q, rfl⟩ : ∃ q, m = q + 1 := ⟨m - 1, by omega⟩
  have hMc : M * p.2.size ≤ cap * p.2.size := Nat.mul_le_mul_right _ h2
  have hjs : j * p.2.size + (q + 1) * p.2.size ≤ M * p.2.size := by rw [← Nat.add_mul];exact Nat.mul_le_mul_right _ hjm
  have hsub : subA (some ⟨b, of, none⟩) p.2.size j cap = some ⟨b, of + j * p.2.size, none⟩ := by unfold subA;rw [if_neg (by omega)];simp [addr_add]
  rw [hsub] at g1
  refine St.clearS Γ.ok t1 t2 t3 (fun u hu => List.all_eq_true.1 hz1 u hu) hz2 g1 hbk (by omega) hc fun h' l' hu hsz hl' hsame => ?_
  have hob : O b := (ho b).2 (by simp [blkOf])
  have hfl := hv.flen
  have hLjs : j * p.2.size ≤ L.length * p.2.size := Nat.mul_le_mul_right _ hjL
  have hvt : RowsV p.2.size (L.take j) := ⟨fun r hr => hv.sz r (List.mem_of_mem_take hr), fun r hr => hv.one r (List.mem_of_mem_take hr)⟩
  have hpre : (l'.drop of).take (j * p.2.size) = (L.take j).flatten := by
   rw [flat_take L j hv.sz]
   have e9 : L.flatten.take (j * p.2.size) = (l.drop of).take (j * p.2.size) := by
    have e8 : ((l.drop of).take (M * p.2.size)).take (j * p.2.size) = (L.flatten ++ junk).take (j * p.2.size) := by rw [h3]
    rw [List.take_append_of_le_length (by omega), List.take_take, Nat.min_eq_left (by omega)] at e8
    exact e8.symm
   rw [e9]
   apply List.ext_getElem?
   intro r
   simp only [List.getElem?_take, List.getElem?_drop]
   split
   ·exact hsame _ (by omega)
   ·rfl
  have c3 := con_seg (R' := arrX (.slice (some ⟨b, of, none⟩) M cap) p.1 p.2.size (L.take j) M) cn2 hu hob (fun _ => ⟨ho, hvt, by rw [List.length_take];omega, ((l'.drop of).take (M * p.2.size)).drop (j * p.2.size), by rw [List.length_append, ← hpre];simp only [List.length_take, List.length_drop, hl'];omega, .inr ⟨b, of, cap, l', rfl, hu.blk, by omega, h2, by
   rw [← hpre]
   conv => lhs;rw [← List.take_append_drop (j * p.2.size) ((l'.drop of).take (M * p.2.size)), List.take_take, Nat.min_eq_left (by omega)]⟩⟩)
  exact CN.mk c3 hn⟩⟩⟩
instance (priority := 1050) {v : Value} {s j m : Nat} {b : AV} : Sp (Cpy Γ c d t u x y ty e o N (.os v s j m) b) (CpS o v (Cpg Γ c d t u x y ty e o N v s j m b) fun T sz L M rest => Lk (slE Γ.tt t) fun p => Rf (T = p.1 ∧ sz = p.2.size ∧ s = sz) (Src o b p.2.size fun q g => Mp q g valR fun q' =>
  Om (j ≤ L.length) (N ((d, .val (.int .i64 (min q'.length m : Nat))) :: e) (arrX v T sz (L.take j ++ q'.take (min q'.length m)) M :: rest)))) := ⟨fun ⟨hor⟩ => by
 rcases hor with hA|⟨T, sz, L, M, rest, tk, p, hp, ⟨hT, hz, hs⟩, β, q, g, ⟨q', hq', hc2, hn⟩, hsrc⟩
 ·exact Sp.h hA.h
 ·subst hs;subst hT;subst hz
  refine ⟨fun ha hb hc => ⟨fun env hh G Os cn => ?_⟩⟩
  obtain ⟨w, g1, p0, len, cap, rfl, hjm, rfl⟩ := cn.get ha
  obtain ⟨w2, g2, r2⟩ := cn.get hb
  obtain ⟨srows, hsl, hsr⟩ := hsrc cn.hp r2
  have hql : q'.length = q.length := by have := congrArg List.length hq';simpa using this
  have hsr' := hsr.map hq'
  have hsv := RowsV.of hsr'
  have e9 := rows_val hsr'
  subst e9
  obtain ⟨ti, t1, t2, t3⟩ := slE_spec hp
  obtain ⟨O, Os', cn2⟩ := cn.take tk
  obtain ⟨⟨ho, hv, hLM, junk, hw⟩, hrest⟩ := cn2.hp.own
  have hvt : RowsV p.2.size (L.take j ++ srows.take (min srows.length m)) := ⟨fun r hr => by
    rcases List.mem_append.1 hr with h|h
    ·exact hv.sz r (List.mem_of_mem_take h)
    ·exact hsv.sz r (List.mem_of_mem_take h), fun r hr => by
    rcases List.mem_append.1 hr with h|h
    ·exact hv.one r (List.mem_of_mem_take h)
    ·exact hsv.one r (List.mem_of_mem_take h)⟩
  have hfl := hv.flen
  have hsfl := hsv.flen
  have hlen := hw.len_vs
  have hfl2 : (L.take j ++ srows.take (min srows.length m)).flatten = L.flatten.take (j * p.2.size) ++ srows.flatten.take (min srows.length m * p.2.size) := by
   rw [List.flatten_append, flat_take L j hv.sz, flat_take _ _ hsv.sz]
  have hLj : j * p.2.size ≤ L.length * p.2.size := Nat.mul_le_mul_right _ hc2
  rcases hw.ok with ⟨e1, e2⟩|⟨b, of, cap', l, e1, hbk, h1, h2, h3⟩
  ·cases e1
   have h0 : min srows.length m = 0 := by omega
   refine .ofLd hc (ld_copy0 Γ.ok t1 t2 t3 g1 g2 hsl (by rw [← hql];exact h0) ?_)
   rw [h0, List.take_zero, List.append_nil] at hn
   rw [h0, List.take_zero, List.append_nil] at hvt
   have c3 : Con Γ ⟨e, arrX (.slice none 0 0) p.1 p.2.size (L.take j) M :: rest⟩ env hh G (O :: Os') := ⟨cn2.hp.perm ⟨⟨ho, hvt, by rw [List.length_take];omega, L.flatten.drop (j * p.2.size) ++ junk, by rw [← List.append_assoc, flat_take L j hv.sz, List.take_append_drop];exact hw⟩, hrest⟩ (List.Perm.refl _), cn2.env, cn2.nf⟩
   exact CN.mk (c3.put d (a := .val (.int .i64 (0 : Nat))) rfl) hn
  ·cases e1
   by_cases h0 : min srows.length m = 0
   ·refine .ofLd hc (ld_copy0 Γ.ok t1 t2 t3 g1 g2 hsl (by rw [← hql];exact h0) ?_)
    rw [h0, List.take_zero, List.append_nil] at hn
    rw [h0, List.take_zero, List.append_nil] at hvt
    have c3 : Con Γ ⟨e, arrX (.slice (some ⟨b, of, none⟩) M cap) p.1 p.2.size (L.take j) M :: rest⟩ env hh G (O :: Os') := ⟨cn2.hp.perm ⟨⟨ho, hvt, by rw [List.length_take];omega, L.flatten.drop (j * p.2.size) ++ junk, by rw [← List.append_assoc, flat_take L j hv.sz, List.take_append_drop];exact hw⟩, hrest⟩ (List.Perm.refl _), cn2.env, cn2.nf⟩
    exact CN.mk (c3.put d (a := .val (.int .i64 (0 : Nat))) rfl) hn
   ·have hsub : subA (some ⟨b, of, none⟩) p.2.size j cap = some ⟨b, of + j * p.2.size, none⟩ := by unfold subA;rw [if_neg (by omega)];simp [addr_add]
    rw [hsub] at g1
    have hMc : M * p.2.size ≤ cap * p.2.size := Nat.mul_le_mul_right _ h2
    have hjs : j * p.2.size + min srows.length m * p.2.size ≤ M * p.2.size := by rw [← Nat.add_mul];exact Nat.mul_le_mul_right _ (by omega)
    have hmin : min srows.length m * p.2.size ≤ srows.length * p.2.size := Nat.mul_le_mul_right _ (by omega)
    have hone : ∀ w ∈ srows.flatten, w.oneCell' = true := fun w hw => by
     obtain ⟨r, hr, hw⟩ := List.mem_flatten.1 hw
     exact hsv.one r hr w hw
    refine .ofLd hc (ld_copy Γ.ok t1 t2 t3 g1 g2 hbk hsl (by rw [hsfl, hql]) (fun w hw => hone w (List.mem_of_mem_take hw)) (by rw [← hql];omega) fun h' hsz hu => ?_)
    rw [← hql] at hu ⊢
    have hob : O b := (ho b).2 (by simp [blkOf])
    have hX : (srows.flatten.take (min srows.length m * p.2.size)).length = min srows.length m * p.2.size := by rw [List.length_take];omega
    have hown := own_seg (j := j) hw hX (by omega) hu h1 h2 h3
    rw [List.take_append_of_le_length (by omega), ← hfl2] at hown
    have c3 := con_seg (R' := arrX (.slice (some ⟨b, of, none⟩) M cap) p.1 p.2.size (L.take j ++ srows.take (min srows.length m)) M) cn2 hu hob (fun _ => ⟨ho, hvt, by rw [List.length_append, List.length_take, List.length_take];omega, _, hown⟩)
    exact CN.mk (c3.put d (a := .val _) rfl) hn⟩
theorem CA.ofX {y : Code} (q : Tmp) {v : Value} {T sz m : Nat} {L : List (List Value)} {rest : List Res} (ht : lookA e q = some (.ox v)) (tk : Take o (arrX v T sz L m) rest) (hl : L.length = m) (h : CA Γ k y ((q, .ow v) :: e) (arrR v T sz L valR :: rest)) : CA Γ k y e o := by
 refine ⟨fun env hh G Os cn => ?_⟩
 obtain ⟨O, Os', cn2⟩ := cn.take tk
 obtain ⟨⟨ho, hv, hLM, junk, hw⟩, hrest⟩ := cn2.hp.own
 subst hl
 have hlen := hw.len_vs
 have hfl := hv.flen
 have hj : junk = [] := List.eq_nil_of_length_eq_zero (by rw [List.length_append] at hlen;omega)
 subst hj
 rw [List.append_nil] at hw
 have c3 : Con Γ ⟨e, arrR v T sz L valR :: rest⟩ env hh G (O :: Os') := ⟨cn2.hp.perm ⟨⟨ho, L, hw, hv.rows hh G⟩, hrest⟩ (List.Perm.refl _), cn2.env, cn2.nf⟩
 exact h.h env hh G (O :: Os') (con_re (σ := ⟨e, arrR v T sz L valR :: rest⟩) c3 q (fun w hw' => by
  obtain ⟨w', g1, g2⟩ := cn.env q _ ht
  rw [hw'] at g1;cases g1;exact g2) ht)
/-! ### append of zeros, where a new row is needed -/
theorem run_append_grow_zeros {P : Program} {w : World} (t tn ty e : TypeId) (i : TypeInfo) (z : Value) (k kn : IntKind) (ht : P.underlying t = some (.slice e)) (htn : P.underlying tn = some (.int kn)) (hi : P.info? e = some i) (hz : i.zero = some z)
  (b : Addr) (sLen sCap : Nat) (olds : List Value) (hlo : olds.length = sLen * i.size) (holds : ∀ j v, olds[j]? = some v → w.cell? (b.add j) = some v) (n : Nat) (h0 : 0 < n) (hs : 0 < i.size)
  (hg : sCap < sLen + n) (h63 : ((sLen + n : Nat) : Int) ≤ 9223372036854775807) (h48 : n * i.bytes ≤ 281474976710656) (hfit : Builtin.nextslicecap (sLen + n) sCap * i.bytes ≤ 281474976710656) :
  (Builtin.append_ #[t, tn] ty #[.slice (some b) sLen sCap, .int k n]).run P w =
   .ok (.slice (some ⟨w.heap.size, 0, none⟩) (sLen + n) (grownCap w (sLen + n) sCap e))
    (w.drew.alloc (.cells (olds.toArray ++ Builtin.zeroCells z.cells n ++ Builtin.zeroCells z.cells (grownCap w (sLen + n) sCap e - (sLen + n))) e)) := by
 have hn : ¬ (sLen + n ≤ sCap) := by omega
 have hw : IntKind.i64.wrap (n : Int) = n := by rw [IntKind.wrap_i64];omega
 have h63' : ¬ (9223372036854775807 < ((sLen : Int) + (n : Int))) := by omega
 have h48' : ¬ (281474976710656 < Builtin.nextslicecap (sLen + n) sCap * i.bytes) := by omega
 have h48i : ¬ (281474976710656 < (n : Int) * (i.bytes : Int)) := by
  rw [← Int.natCast_mul];omega
 have hneg : ¬ ((n : Int) < 0) := by omega
 have hns : ¬ (n * i.size = 0) := Nat.mul_ne_zero (by omega) (by omega)
 have hfo := run_firstCells_some (P := P) w.drew i.size sLen b sLen sCap olds hlo (by simpa using holds)
 simp [Builtin.append_, run_underlying ht, run_underlying htn, sizeOf, typeInfo, zeroValue, hi, hz, asInt, asIntOf, hw, hn, hneg, hns, h63', h48', h48i, Question.forced, hfo, newRow, grownCap]
end
end Go.CF
namespace Go.CF
open Go
section
variable {Γ : Cx} {k : List KI} {e : EA} {o : List Res} {N : NA} {c : Cls} {d : Tmp} {ty : TypeId} {x y z : Operand} {t u : TypeId} {kk : IntKind} {i : Int}
structure Apz (Γ : Cx) (c : Cls) (d : Tmp) (t u : TypeId) (x y : Operand) (ty : TypeId) (e : EA) (o : List Res) (N : NA) (a b : AV) : Prop where
 h : evA e x = some a → evA e y = some b → isLoud c = true → SA Γ c (some d) (.call { callee := .builtin .append, args := #[x, y], argTypes := #[t, u] }) ty e o N
instance (priority := 900) : Sp (SA Γ c (some d) (.call { callee := .builtin .append, args := #[x, y], argTypes := #[t, u] }) ty e o N) (Rf (isLoud c = true) (Lk (evA e x) fun a => Lk (evA e y) fun b => Apz Γ c d t u x y ty e o N a b)) := ⟨fun ⟨hc, _, ha, _, hb, h⟩ => h.h ha hb hc⟩
instance {v : Value} {s m : Nat} : Sp (Apz Γ c d t u x y ty e o N (.os v s 0 m) (.val (.int .i64 i))) (Lk (slE Γ.tt t) fun p => Lk (Γ.tt u) fun ui => Rf (ui.kind = .int .i64) (Rf ((Nat.blt 0 p.2.size && Nat.ble p.2.bytes 1000) = true ∧ p.2.zero.cells.size = p.2.size) (TkA o v fun T sz l f _ => Rf (T = p.1 ∧ sz = p.2.size ∧ s = sz) (Mp l f valR fun L =>
  Jx i 100000000000 fun n => Om (0 < n ∧ capV v < m + n ∧ m ≤ l.length ∧ 0 < l.length ∧ m + n ≤ 100000000000) (All fun w : Value => N ((d, .ox w) :: e) (arrX w p.1 p.2.size (L.take m) (m + n) :: o)))))) := ⟨fun ⟨p, hp, ui, hui, huk, ⟨hs1, hs2⟩, α, T, sz, l, f, rest, tk, ⟨hT, hz, hs⟩, L, hL, n, hi, _, ⟨hn0, hcap, hml, hl0, hmn⟩, hn⟩ => ⟨fun ha hb hc => ⟨fun env hh G Os cn => by
 subst hs;subst hT;subst hz;subst hi
 obtain ⟨w, g1, p0, len, cap, rfl, hjm, rfl⟩ := cn.get ha
 obtain ⟨w2, g2, rfl⟩ := cn.get hb
 obtain ⟨ti, t1, t2, t3⟩ := slE_spec hp
 obtain ⟨O, Os', cn2⟩ := cn.take tk
 obtain ⟨⟨ho, rows, hw, hr⟩, hrest⟩ := cn2.hp.own
 have hr2 : Rows hh G p.2.size rows L valR := hr.map hL
 have hv := RowsV.of hr2
 have e9 := rows_val hr2
 subst e9
 have hLl : rows.length = l.length := hr.len
 simp only [Bool.and_eq_true, Nat.blt_eq] at hs1
 have hb1000 := Nat.le_of_ble_eq_true hs1.2
 have hlen := hw.len_vs
 have hfl := hv.flen
 rcases hw.ok with ⟨e1, e2⟩|⟨b, of, cap', l', e1, hbk, h1, h2, h3⟩
 ·omega
 ·cases e1
  have hsub : subA (some ⟨b, of, none⟩) p.2.size 0 cap = some ⟨b, of, none⟩ := subA_zero (fun a h => by cases h;rfl)
  rw [hsub] at g1
  have hcap : cap < m + n := hcap
  refine .ofLd hc fun a w oo next Q ha' hw' hop hty hnn => ?_
  obtain ⟨ie, dd, hie, hd, hi1, hi2, hi3, _⟩ := (Γ.ok.ok _ _ t3).ok
  have hu := (Γ.ok.ok _ _ t1).slice t2
  have hun := (Γ.ok.ok _ _ hui).int huk
  have hms : m * p.2.size ≤ l.length * p.2.size := Nat.mul_le_mul_right _ hml
  have hlc : l.length * p.2.size ≤ cap * p.2.size := Nat.mul_le_mul_right _ h2
  have holds : ∀ j v, (rows.take m).flatten[j]? = some v → w.cell? ((⟨b, of, none⟩ : Addr).add j) = some v := fun j v hv' => by
   rw [flat_take rows m hv.sz, ← h3, List.take_take, Nat.min_eq_left hms] at hv'
   exact ((hbk.cels of (m * p.2.size)).get j v hv').get w hw'
  have hof : (rows.take m).flatten.length = m * ie.size := by rw [flat_take rows m hv.sz, List.length_take, hfl, hi1, hLl];omega
  have hbytes : n * ie.bytes ≤ 281474976710656 := by
   rw [hi2]
   have : n * p.2.bytes ≤ 100000000000 * 1000 := Nat.mul_le_mul (by omega) hb1000
   omega
  have hfit : Builtin.nextslicecap (m + n) cap * ie.bytes ≤ 281474976710656 := growslice_fits (by omega) (by
   rw [hi2]
   have : (m + n) * p.2.bytes ≤ 100000000000 * 1000 := Nat.mul_le_mul (by omega) hb1000
   omega)
  have hrz := run_append_grow_zeros (P := Γ.P) (w := w) t u ty p.1 ie p.2.zero .i64 .i64 hu hun hie hi3 ⟨b, of, none⟩ m cap (rows.take m).flatten hof holds n hn0 (by rw [hi1];exact hs1.1) hcap (by omega) hbytes hfit
  have hge := grownCap_ge w (m + n) cap p.1
  generalize grownCap w (m + n) cap p.1 = cap2 at hrz hge
  have hrun : (execOp a.eval (mkOp (.call { callee := .builtin .append, args := #[x, y], argTypes := #[t, u] }) ty)).run Γ.P w = .ok (.value (.slice (some ⟨w.heap.size, 0, none⟩) (m + n) cap2)) (w.drew.alloc (.cells ((rows.take m).flatten.toArray ++ Builtin.zeroCells p.2.zero.cells n ++ Builtin.zeroCells p.2.zero.cells (cap2 - (m + n))) p.1)) := by
   simp [mkOp, execOp, resolve, invoke, builtin, ha'.ev g1, ha'.ev g2, hrz]
  unfold Oper.wp
  rw [exec_mk, hop, hty, hrun]
  have hheap : (w.drew.alloc (.cells ((rows.take m).flatten.toArray ++ Builtin.zeroCells p.2.zero.cells n ++ Builtin.zeroCells p.2.zero.cells (cap2 - (m + n))) p.1)).heap = hh.push (.cells ((rows.take m).flatten ++ (Builtin.zeroCells p.2.zero.cells n).toList ++ (Builtin.zeroCells p.2.zero.cells (cap2 - (m + n))).toList).toArray p.1 (0, 0)) := by
   simp only [World.alloc, World.drew, hw']
   congr 2
   apply Array.ext'
   simp
  have hnew : New hh hh.size p.1 ((rows.take m).flatten ++ (Builtin.zeroCells p.2.zero.cells n).toList ++ (Builtin.zeroCells p.2.zero.cells (cap2 - (m + n))).toList) (w.drew.alloc (.cells ((rows.take m).flatten.toArray ++ Builtin.zeroCells p.2.zero.cells n ++ Builtin.zeroCells p.2.zero.cells (cap2 - (m + n))) p.1)).heap := ⟨rfl, hheap⟩
  have hvt : RowsV p.2.size (rows.take m) := ⟨fun r hr => hv.sz r (List.mem_of_mem_take hr), fun r hr => hv.one r (List.mem_of_mem_take hr)⟩
  refine hnn _ _ ⟨rfl, rfl, rfl, by first|exact Nat.le_refl _|exact Nat.le_succ _⟩ ?_
  have hzl : (Builtin.zeroCells p.2.zero.cells n).toList.length = n * p.2.size := by simp [size_zeroCells, hs2]
  have hzl2 : (Builtin.zeroCells p.2.zero.cells (cap2 - (m + n))).toList.length = (cap2 - (m + n)) * p.2.size := by simp [size_zeroCells, hs2]
  rw [hi1] at hof
  have hcs : (m + n) * p.2.size + (cap2 - (m + n)) * p.2.size = cap2 * p.2.size := by rw [← Nat.add_mul];congr 1;omega
  have hmns : (m + n) * p.2.size = m * p.2.size + n * p.2.size := Nat.add_mul _ _ _
  have c3 := cn.new (R := arrX (.slice (some ⟨hh.size, 0, none⟩) (m + n) cap2) p.1 p.2.size (rows.take m) (m + n)) (O := fun y => y = hh.size) hnew (fun y h => h)
   ⟨fun y => by simp [blkOf], hvt, by rw [List.length_take];omega, (Builtin.zeroCells p.2.zero.cells n).toList, by rw [List.length_append, hof, hzl, hmns], .inr ⟨hh.size, 0, cap2, _, rfl, hnew.blk, by simp only [List.length_append, hof, hzl, hzl2];omega, by omega, by rw [List.drop_zero, List.take_left' (by rw [List.length_append, hof, hzl, hmns])]⟩⟩
  rw [hw']
  exact CN.mk (c3.put d (a := .ox _) ⟨rfl, _, _, _, rfl⟩) (hn.ok _)⟩⟩⟩
end
end Go.CF
namespace Go.CF
open Go
theorem run_overlaps_none {P : Program} (w : World) (tS tR e : TypeId) (ht : P.underlying tS = some (.slice e)) (size : Nat) (hz : ∀ w, (Go.sizeOf e).run P w = .ok size w) (p q : Option Addr) (la ca lb cb : Nat) (h : p = none ∨ q = none ∨ la = 0 ∨ lb = 0) :
  (Extern.SlicesOverlaps.overlaps #[tS, tS] #[tR] #[.slice p la ca, .slice q lb cb]).run P w = .ok (.bool false) w := by
 change Sem.run P (α := Value) (do
  let some t := (#[tS, tS] : Array TypeId)[0]?|stuck "slices.overlaps: no parameter types"
  let .slice elem ← underlying t|stuck "slices.overlaps: slice type expected"
  let size ← sizeOf elem
  match p, q with
  | some a, some b =>
   if la = 0 ∨ lb = 0 ∨ size = 0 then pure (Value.bool false)
   else if a.block != b.block && (← frozen a) && (← frozen b) then unsupported .addressObserved
   else do
    if a.block != b.block then do
     noView a;noView b
     if ← mayBeOne a b then return Value.bool ((← choose (.extern "sameAddr.stringBytes" 2)) == 1)
    pure (Value.bool (a.block == b.block && a.off < b.off + lb * size && b.off < a.off + la * size))
  | _, _ => pure (Value.bool false)) w = _
 cases p with
 | none => simp [run_underlying ht, hz]
 | some a =>
  cases q with
  | none => simp [run_underlying ht, hz]
  | some b =>
   have h0 : la = 0 ∨ lb = 0 ∨ size = 0 := by rcases h with h|h|h|h <;> simp_all
   simp [run_underlying ht, hz, h0]
structure OvF (P : Program) (f : FuncId) (tS : TypeId) : Prop where
 ok : ∃ fn tR, P.funcs[f]? = some fn ∧ (fn.name == "runtime.NumGoroutine") = false ∧ fn.body.isNone = true ∧ Extern.findNext fn = none ∧ Extern.find fn = some (Extern.SlicesOverlaps.overlaps #[tS, tS] #[tR])
section
variable {Γ : Cx} {k : List KI} {e : EA} {o : List Res} {N : NA} {c : Cls} {d : Tmp} {ty : TypeId} {x y z : Operand} {t u : TypeId} {kk : IntKind} {i : Int}
structure Ovl (o : List Res) (a b : AV) (k : Prop) : Prop where
 ok : ∃ (u v : Value) (s j m : Nat) (α : Type) (T sz : Nat) (l : List α) (f : α → List AV) (rest : List Res) (T' sz' : Nat) (L : List (List Value)) (m' : Nat) (rest' : List Res), a = .ow u ∧ b = .os v s j m ∧ Take o (arrR u T sz l f) rest ∧ Take rest (arrX v T' sz' L m') rest' ∧ 0 < sz' ∧ k
theorem Ovl.mk' {u v : Value} {s j m : Nat} {α : Type} {T sz : Nat} {l : List α} {f : α → List AV} {rest : List Res} {T' sz' : Nat} {L : List (List Value)} {m' : Nat} {rest' : List Res} {k : Prop} (h1 : Take o (arrR u T sz l f) rest) (h2 : Take rest (arrX v T' sz' L m') rest') (h3 : 0 < sz') (hk : k) : Ovl o (.ow u) (.os v s j m) k :=
 ⟨u, v, s, j, m, α, T, sz, l, f, rest, T', sz', L, m', rest', rfl, rfl, h1, h2, h3, hk⟩
theorem SA.ovl {f : FuncId} {tS : TypeId} (hf : OvF Γ.P f tS) {p : Nat × TI} (hp : slE Γ.tt tS = some p) {tys : Array TypeId} (hc : isLoud c = true) (h : Lk (evA e x) fun a => Lk (evA e y) fun b => Ovl o a b (N ((d, .val (.bool false)) :: e) o)) :
  SA Γ c (some d) (.call { callee := .value (.func f), args := #[x, y], argTypes := tys }) ty e o N := by
 obtain ⟨a, ha, b, hb, u, v, s, j, m, α, T, sz, l, g, rest, T', sz', L, m', rest', rfl, rfl, tk1, tk2, hsp, hn⟩ := h
 refine ⟨fun env hh G Os cn => ?_⟩
 obtain ⟨w1, g1, hw1, q1, l1, c1, hq1⟩ := cn.get ha
 obtain ⟨w2, g2, q2, l2, c2, rfl, hjm, rfl⟩ := cn.get hb
 subst hw1
 subst hq1
 obtain ⟨ti, t1, t2, t3⟩ := slE_spec hp
 obtain ⟨O, Os', cn2⟩ := cn.take tk1
 obtain ⟨⟨ho, rows, hw, hr⟩, hrest⟩ := cn2.hp.own
 obtain ⟨O', Os2, cn3⟩ := (show Con Γ ⟨e, rest⟩ env hh G Os' from ⟨cn2.hp.drop, cn2.env, cn2.nf⟩).take tk2
 obtain ⟨⟨ho', hv', hL', junk, hw'⟩, _⟩ := cn3.hp.own
 obtain ⟨fn, tR, hf1, hf2, hf3, hf4, hf5⟩ := hf.ok
 have hu := (Γ.ok.ok _ _ t1).slice t2
 have hzz := (Γ.ok.ok _ _ t3).run_size
 have key : ∀ w : World, w.heap = hh → (Extern.SlicesOverlaps.overlaps #[tS, tS] #[tR] #[.slice q1 l1 c1, .slice (subA q2 s j c2) m (c2 - j)]).run Γ.P w = .ok (.bool false) w := by
  intro w hwh
  rcases hw.ok with ⟨e1, e2⟩|⟨b1, of1, cap1, L1, e1, hb1, _, _, _⟩
  ·cases e1
   exact run_overlaps_none w tS tR p.1 hu p.2.size hzz _ _ _ _ _ _ (.inl rfl)
  ·cases e1
   rcases hw'.ok with ⟨e1, e2⟩|⟨b2, of2, cap2, L2, e1, hb2, k1, k2, _⟩
   ·cases e1
    refine run_overlaps_none w tS tR p.1 hu p.2.size hzz _ _ _ _ _ _ (.inr (.inl ?_))
    unfold subA;split <;> rfl
   ·cases e1
    by_cases h0 : l.length = 0 ∨ m = 0
    ·exact run_overlaps_none w tS tR p.1 hu p.2.size hzz _ _ _ _ _ _ (.inr (.inr h0))
    ·have hjc : j < m' := by omega
     have hsub : ∃ a, subA (some ⟨b2, of2, none⟩) s j c2 = some a ∧ a.block = b2 := by
      unfold subA
      split
      ·exact ⟨_, rfl, rfl⟩
      ·exact ⟨_, rfl, by simp [addr_add]⟩
     obtain ⟨a2, ha2, hab⟩ := hsub
     rw [ha2]
     have hB1 : w.heap[b1]? = some (.cells L1.toArray T (0, 0)) := hb1.heap hwh
     have hB2 : w.heap[b2]? = some (.cells L2.toArray T' (0, 0)) := hb2.heap hwh
     have hne : b1 ≠ b2 := fun h => by
      have h1 : O b1 := (ho b1).2 (by simp [blkOf])
      have h2 : O' b2 := (ho' b2).2 (by simp [blkOf])
      have hd := List.pairwise_cons.1 cn2.hp.d
      obtain ⟨O2, os2, r1, r2, r3⟩ := tk2.own cn2.hp.drop.own
      have h3 : O2 b2 := (r1.1 b2).2 (by simp [blkOf])
      exact hd.1 O2 (r3.mem_iff.2 (by simp)) b1 h1 (h ▸ h3)
     by_cases hk0 : L2.length = 0
     ·have h5 := Nat.mul_le_mul_right sz' k2
      have h6 : 0 < m' * sz' := Nat.mul_pos (by omega) hsp
      omega
     ·exact Go.Lib.run_overlaps_apart w tS tR p.1 hu p.2.size hzz ⟨b1, of1, none⟩ a2 l.length c1 m (c2 - j) (by rw [hab];exact hne) T T' L1.length L2.length (by simp [World.shape?, hB1]) (by rw [hab];simp [World.shape?, hB2]) hk0 (by simp [World.frozen?, hB1]) (by simp [World.frozen?, hB1])
 refine St.ofLd hc fun a w oo next Q ha' hwh hop hty hnn => ?_
 have hrun : (execOp a.eval (mkOp (.call { callee := .value (.func f), args := #[x, y], argTypes := tys }) ty)).run Γ.P w = .ok (.value (.bool false)) w := by
  have h1 := run_callFunc_extern hf1 hf2 hf3 hf4 hf5 #[.slice q1 l1 c1, .slice (subA q2 s j c2) m (c2 - j)] w
  rw [key w hwh] at h1
  simp [mkOp, execOp, resolve, invoke, Deferred.ofValue, ha'.ev g1, ha'.ev g2, ha'.ev (x := .func f) (v := .func (.func f) #[] #[]) rfl, h1]
 unfold Oper.wp
 rw [exec_mk, hop, hty, hrun]
 exact hnn _ w (Same.refl w) (hwh ▸ CN.mk (cn.put d (a := .val _) rfl) hn)
structure Cvk (q : TK) (i : Int) (M : IntKind → Int → Prop) : Prop where
 ok : ∃ k' r, q = .int k' ∧ k'.wrap i = r ∧ M k' r
theorem Cvk.i64 {q : TK} {i : Int} {M : IntKind → Int → Prop} (hq : q = .int .i64) (h : -9223372036854775808 ≤ i ∧ i ≤ 9223372036854775807) (hm : M .i64 i) : Cvk q i M := ⟨.i64, i, hq, wrap_i64 h, hm⟩
theorem Cvk.u8 {q : TK} {i : Int} {M : IntKind → Int → Prop} (hq : q = .int .u8) (h : 0 ≤ i ∧ i ≤ 255) (hm : M .u8 i) : Cvk q i M := ⟨.u8, i, hq, wrap_u8 h, hm⟩
theorem Cvk.u64 {q : TK} {i : Int} {M : IntKind → Int → Prop} (hq : q = .int .u64) (h : 0 ≤ i ∧ i ≤ 18446744073709551615) (hm : M .u64 i) : Cvk q i M := ⟨.u64, i, hq, by
 simp [IntKind.wrap, IntKind.signed, IntKind.bits];omega, hm⟩
instance (priority := 1100) {w : TypeId} : Sp (Ap1 Γ c d (.convert t w x) ty e o N x (.val (.int kk i))) (Lk (Γ.tt t) fun _ => Lk (Γ.tt w) fun ti => Cvk ti.kind i fun k' r => N ((d, .val (.int k' r)) :: e) o) := ⟨fun ⟨_, h1, _, h2, _, _, hq, hr, hn⟩ => puv1 (fun _ _ => rfl) hn fun _ _ _ h k => St.convert Γ.ok h1 h2 hq h hr k⟩
instance {k2 : IntKind} : Sp (Ap2 Γ c d (.binOp .shr t x y u) ty e o N x (.val (.int .u64 i)) y (.val (.int k2 1))) (N ((d, .val (.int .u64 (i / 2))) :: e) o) := ⟨fun hn => puv2 hn fun _ _ _ h h' k => St.shrN h h' (m := 1) rfl (by decide) (by rw [show (2 : Int) ^ 1 = 2 from rfl];exact k)⟩
end
end Go.CF
namespace Go.Proofs.YtmllihbhphnolaaGreat
open Go Go.CF
set_option maxRecDepth 20000
theorem ovF_mark : OvF Tryz.prog 292 121 :=
 ⟨_, 4, Tryz.func292, by kernel_rfl, by kernel_rfl, by kernel_rfl, by kernel_rfl⟩
instance (priority := 2000) {T : Nat → Ord × (Nat → Cls)} {n : Nat} {rs : Array ResultVar} {K : AV → List Res → Prop} {h0 : Heap} {G0 O0 : Nat → Prop} {d : Tmp} {x y : Operand} {tys : Array TypeId} {ty : TypeId} {e : EA} {o : List Res} {N : NA} :
  Sp (SA ⟨Tryz.prog, tt, en, pg, T, n, rs, K, h0, G0, O0, ⟨none⟩⟩ .loud (some d) (.call { callee := .value (.func 292), args := #[x, y], argTypes := tys }) ty e o N)
   (Lk (evA e x) fun a => Lk (evA e y) fun b => Ovl o a b (N ((d, .val (.bool false)) :: e) o)) := ⟨fun h => SA.ovl ovF_mark (tS := 121) rfl rfl h⟩
theorem ins_eq {α : Type} {L : List α} {r : α} {i : Nat} (hi : i < L.length) (a b c : Nat) (ha : a = L.length - i) (hb : b = 1) (hc : c = 1) :
  (L.take (i + c) ++ (L.drop i).take a).take i ++ [r].take b ++ (L.take (i + c) ++ (L.drop i).take a).drop (i + b) = L.take i ++ r :: L.drop i := by
 subst ha;subst hb;subst hc
 have h1 : (L.drop i).take (L.length - i) = L.drop i := List.take_of_length_le (by simp)
 have h2 : (L.take (i + 1)).length = i + 1 := by simp;omega
 rw [h1, List.take_append_of_le_length (by omega), List.take_take, Nat.min_eq_left (by omega), List.drop_append_of_le_length (by omega), List.drop_of_length_le (by omega)]
 simp
theorem ins_eq2 {α : Type} {L : List α} {r : α} {i : Nat} (hi : i < L.length) (a b c d e g : Nat) (hg : g = i) (he : e = 1) (hd : d = L.length - i) (hb : b = L.length - i) (ha : a = i) (hc : c = 1) :
  (((L.take g).take a ++ [r].take e).take (i + c) ++ ((L.drop i).take d).take b) = L.take i ++ r :: L.drop i := by
 subst ha;subst hb;subst hc;subst hd;subst he;subst hg
 have h1 : (L.drop g).take (L.length - g) = L.drop g := List.take_of_length_le (by simp)
 rw [h1, h1, List.take_take, Nat.min_self, List.take_of_length_le (l := List.take g L ++ List.take 1 [r]) (by simp;omega)]
 simp
set_option maxHeartbeats 1000000 in
theorem insertV_a (w u : Value) (L : List (List Value)) (r : List Value) (i : Nat) (hi : i ≤ L.length) (hl : L.length ≤ 1000000) :
  CallA Tryz.prog 284 [.ow w, it i, .ow u] [arrR w 125 4 L valR, arrR u 125 4 [r] valR] fun q own => ∃ w', q = .ow w' ∧ own = [arrR w' 125 4 (L.take i ++ r :: L.drop i) valR] := by
 refine CallA.of pg ord284 Tryz.func284 rfl Tryz.ntmps284 Tryz.results284 rfl fun h0 G0 O0 => ?_
 have h1r : ([r] : List (List Value)).length = 1 := rfl
 by_cases hin : i = L.length
 ·subst hin
  rw [List.take_length, List.drop_length]
  repeat' (first|refine Sp.h ?_|refine Lk.r rfl ?_|refine Rf.mk rfl ?_|(apply Bd.t;(focus first|assumption|omega|rfl))|(apply Bd.f;(focus first|assumption|omega|exact Bool.false_ne_true))|(apply Om.mk;(focus first|omega|(simp <;> omega)))|(refine All.mk ?_;intro _)|(apply TkA.r;(focus repeat constructor))|refine Ce.r ?_|(apply Nm.r;focus repeat constructor)|refine Rf.mk ⟨rfl, rfl⟩ ?_|(apply Jx.r;(focus exact rfl);(focus first|omega|(simp;done)|(simp;omega)))|refine Mp.same ?_|fail)
  exact ⟨_, _, .one (.same (.nil (by (repeat first|exact .nil|refine .cons (by repeat constructor) ?_)))), _, rfl, rfl⟩
 have hin : i < L.length := by omega
 by_cases hc : capV w < L.length + 1
 ·repeat' (first|refine Sp.h ?_|refine Lk.r rfl ?_|refine Rf.mk rfl ?_|(apply Bd.t;(focus first|assumption|omega|rfl))|(apply Bd.f;(focus first|assumption|omega|exact Bool.false_ne_true))|(refine Im.mk ?_;intro _)|(apply TkA.r;(focus repeat constructor))|refine Rf.mk ⟨rfl, rfl⟩ ?_|refine Rf.mk ⟨rfl, rfl, rfl⟩ ?_|(apply Jx.r;(focus exact rfl);(focus first|omega|(simp;done)|(simp;omega)))|refine Mp.same ?_|(apply Ov.n;(focus first|omega|(simp <;> omega)))|fail)
  refine Jx.r (j := L.length + [r].length - i) (by omega) (by omega) ?_
  (repeat' (first|(show CA _ _ (Code.region 12 _ _) _ _;apply Stopped.out)|refine Sp.h ?_|refine Lk.r rfl ?_|refine Rf.mk rfl ?_|refine OpK.r rfl ?_|(apply Om.mk;(focus first|omega|(simp <;> omega)))|(refine All.mk ?_;intro _)|(apply TkA.r;(focus repeat constructor))|refine Rf.mk ⟨rfl, rfl⟩ ?_|refine Rf.mk ⟨rfl, rfl, rfl⟩ ?_|(apply Jx.r;(focus exact rfl);(focus first|omega|(simp;done)|(simp;omega)))|refine Mp.same ?_|(apply CA.draw;(focus rfl);(focus kernel_rfl);(focus kernel_rfl);(focus repeat' constructor);(focus rfl))|(apply Ov.n;(focus first|omega|(simp <;> omega)))|(apply CpS.part;(focus (repeat constructor;done)))|(apply TkX.r;(focus repeat constructor))|fail));any_goals apply Stopped.mk
  apply CA.ofX 9
  focus rfl
  focus (repeat constructor)
  focus (simp;omega)
  repeat' (first|refine Sp.h ?_|refine Lk.r rfl ?_|refine Rf.mk rfl ?_|(apply Nm.r;focus repeat constructor)|fail)
  rw [ins_eq2 hin _ _ _ _ _ _ (by omega) (by omega) (by omega) (by simp;omega) (by omega) h1r]
  exact ⟨_, _, .one (.same (.nil (by (repeat first|exact .nil|refine .cons (by repeat constructor) ?_)))), _, rfl, rfl⟩
 ·(repeat' (first|(show CA _ _ (Code.region 13 _ _) _ _;apply Stopped.out)|refine Sp.h ?_|refine Lk.r rfl ?_|refine Rf.mk rfl ?_|(apply Bd.f;(focus first|assumption|omega|exact Bool.false_ne_true))|(refine Im.mk ?_;intro _)|(apply TkA.r;(focus repeat constructor))|(apply Jx.r;(focus exact rfl);(focus first|omega|(simp;done)|(simp;omega)))|(apply Ov.n;(focus first|omega|(simp <;> omega)))|fail));any_goals apply Stopped.mk
  apply CA.toX 0
  focus rfl
  focus (repeat constructor)
  intro _
  (repeat' (first|(show CA _ _ (Code.region 16 _ _) _ _;apply Stopped.out)|refine Sp.h ?_|refine Lk.r rfl ?_|refine Rf.mk rfl ?_|(apply Bd.f;(focus first|assumption|omega|exact Bool.false_ne_true))|refine OpK.r rfl ?_|(apply Om.mk;(focus first|omega|(simp <;> omega)))|refine Rf.mk ⟨rfl, rfl, rfl⟩ ?_|(apply Jx.r;(focus exact rfl);(focus first|omega|(simp;done)|(simp;omega)))|(apply CA.draw;(focus rfl);(focus kernel_rfl);(focus kernel_rfl);(focus repeat' constructor);(focus rfl))|(apply Ov.n;(focus first|omega|(simp <;> omega)))|(apply CpS.part;(focus (repeat constructor;done)))|(apply TkX.r;(focus repeat constructor))|(apply ExX.long;(focus rfl);(focus first|omega|(simp <;> omega));(focus first|omega|(simp <;> omega)))|(apply Ovl.mk';(focus repeat constructor);(focus repeat constructor);(focus decide))|fail));any_goals apply Stopped.mk
  refine CA.sub ⟨[(0, .ow _), (1, it i), (2, .ow u)], [arrR _ 125 4 _ valR, arrR u 125 4 [r] valR]⟩ ⟨by repeat first|trivial|refine ⟨rfl,?_⟩,by repeat first|exact .nil|refine .cons (by repeat constructor) ?_⟩ ?_
  repeat' (first|refine Sp.h ?_|refine Lk.r rfl ?_|refine Rf.mk rfl ?_|(apply TkA.r;(focus repeat constructor))|(apply Nm.r;focus repeat constructor)|refine Rf.mk ⟨rfl, rfl, rfl⟩ ?_|(apply Jx.r;(focus exact rfl);(focus first|omega|(simp;done)|(simp;omega)))|refine Mp.same ?_|(apply CpS.all;(focus (repeat constructor;done)))|fail)
  rw [ins_eq hin _ _ _ (by omega) (by simp;omega) h1r]
  exact ⟨_, _, .one (.same (.nil (by (repeat first|exact .nil|refine .cons (by repeat constructor) ?_)))), _, rfl, rfl⟩
end Go.Proofs.YtmllihbhphnolaaGreat
namespace Go.Proofs.YtmllihbhphnolaaGreat
open Go Go.CF
set_option maxRecDepth 20000
def idxN {α : Type} (p : α → Bool) : List α → Nat
 | [] => 0
 | a :: l => if p a then 0 else idxN p l + 1
def idxI {α : Type} (p : α → Bool) (l : List α) : Int := if idxN p l < l.length then idxN p l else -1
theorem idxN_of {α : Type} {p : α → Bool} : ∀ {l : List α} {i : Nat} {x : α}, l[i]? = some x → p x = true → (∀ j y, j < i → l[j]? = some y → p y = false) → idxN p l = i := by
 intro l
 induction l with
 | nil => intro i x h;cases h
 | cons a l ih =>
  intro i x h1 h2 h3
  cases i with
  | zero => cases h1;simp [idxN, h2]
  | succ i =>
   have := h3 0 a (by omega) rfl
   simp [idxN, this, ih h1 h2 fun j y hj hy => h3 (j + 1) y (by omega) hy]
theorem idxN_none {α : Type} {p : α → Bool} : ∀ {l : List α}, (∀ x ∈ l, p x = false) → idxN p l = l.length := by
 intro l
 induction l with
 | nil => intro _;rfl
 | cons a l ih => intro h;simp [idxN, h a (by simp), ih fun x hx => h x (by simp [hx])]
theorem idxN_at {α : Type} {p : α → Bool} : ∀ {l : List α}, idxN p l < l.length → ∃ x, l[idxN p l]? = some x ∧ p x = true ∧ ∀ j y, j < idxN p l → l[j]? = some y → p y = false := by
 intro l
 induction l with
 | nil => intro h;simp at h
 | cons a l ih =>
  intro h
  by_cases ha : p a = true
  ·exact ⟨a, by simp [idxN, ha], ha, fun j y hj => by simp [idxN, ha] at hj⟩
  ·have he : idxN p (a :: l) = idxN p l + 1 := by simp [idxN, ha]
   obtain ⟨x, h1, h2, h3⟩ := ih (by rw [he] at h;simpa using h)
   refine ⟨x, by rw [he];exact h1, h2, fun j y hj hy => ?_⟩
   cases j with
   | zero => cases hy;simpa using ha
   | succ j => exact h3 j y (by omega) hy
theorem idxN_le {α : Type} (p : α → Bool) : ∀ l : List α, idxN p l ≤ l.length := by
 intro l
 induction l with
 | nil => exact Nat.le_refl _
 | cons a l ih => simp only [idxN, List.length_cons];split <;> omega
theorem indexF_p {g : FuncId} {cap : AV} {p : EvS → Bool} (hg : ∀ e, CallP Tryz.prog g [evA' e, cap] (.val (.bool (p e)))) (he : en g = true) (l : List EvS) :
  CallP Tryz.prog 115 [evs l, .fn g [cap]] (.val (.int .i64 (idxI p l))) := by
 refine CallA.of pg ord115 Tryz.func115 rfl Tryz.ntmps115 Tryz.results115 rfl fun h0 G0 O0 => ?_
 repeat' (first|refine Sp.h ?_|refine Lk.r rfl ?_|refine Rf.mk rfl ?_|(refine Im.mk ?_;intro _)|fail)
 rename_i hll
 refine CA.loop (fun i : Nat => ⟨[(0, evs l), (1, .fn g [cap]), (7, .val (.int .i64 l.length)), (8, .val (.int .i64 i))], []⟩)
  (fun i => i ≤ l.length ∧ ∀ j y, j < i → l[j]? = some y → p y = false) (fun i => l.length - i) 0 ⟨by repeat first|trivial|refine ⟨rfl,?_⟩,by repeat first|exact .nil|refine .cons (by repeat constructor) ?_⟩ ⟨Nat.zero_le _, fun j y h => by omega⟩ ?_
 rintro i ⟨hi, hj⟩
 by_cases hin : i < l.length
 ·obtain ⟨e, hx⟩ := get_of hin
  repeat' (first|refine Sp.h ?_|refine Lk.r rfl ?_|refine Rf.mk rfl ?_|(apply Bd.t;(focus first|assumption|omega|rfl))|(refine Bd.mk ?_ ?_ <;> intro _)|(apply Ix.q;(focus exact rfl);(focus assumption))|refine Ch.l ⟨rfl, rfl⟩ ?_|(apply Nm.r;focus repeat constructor)|(apply Rf.mk;(focus assumption))|(apply Ov.n;(focus first|omega|(simp <;> omega)))|(apply Cl.p (hg e);(focus repeat' (first|exact Lend.nil|apply Lend.keep|fail))))
  ·rename_i hp
   exact Fin.p rfl (by rw [idxI, idxN_of hx hp hj, if_pos hin])
  ·rename_i hp
   refine PA.lp (i + 1) ⟨by repeat first|trivial|refine ⟨rfl,?_⟩,by repeat first|exact .nil|refine .cons (by repeat constructor) ?_⟩ ⟨⟨hin, fun j y h1 h2 => ?_⟩, by omega⟩
   by_cases hij : j = i
   ·subst hij;rw [hx] at h2;cases h2;simpa using hp
   ·exact hj j y (by omega) h2
 ·repeat' (first|refine Sp.h ?_|refine Lk.r rfl ?_|refine Rf.mk rfl ?_|(apply Bd.f;(focus first|assumption|omega|exact Bool.false_ne_true))|(apply Nm.r;focus repeat constructor)|fail)
  exact Fin.p rfl (by rw [idxI, idxN_none (fun x hx => by obtain ⟨j, hx⟩ := List.getElem?_of_mem hx;exact hj j x (by have := (List.getElem?_eq_some_iff.1 hx).1;omega) hx), if_neg (by omega)])
end Go.Proofs.YtmllihbhphnolaaGreat
namespace Go.Proofs.YtmllihbhphnolaaGreat
open Go Go.CF
set_option maxRecDepth 20000
abbrev mA (x : MkS) : AV := .agg (mkC x)
theorem indexK_p {g : FuncId} {cap : AV} {p : MkS → Bool} (hg : ∀ x, CallP Tryz.prog g [mA x, cap] (bl (p x))) (he : en g = true) (l : List MkS) :
  CallP Tryz.prog 291 [mks l, .fn g [cap]] (it (idxI p l)) := by
 refine CallA.of pg ord291 Tryz.func291 rfl Tryz.ntmps291 Tryz.results291 rfl fun h0 G0 O0 => ?_
 repeat' (first|refine Sp.h ?_|refine Lk.r rfl ?_|refine Rf.mk rfl ?_|(refine Im.mk ?_;intro _)|fail)
 refine CA.loop (fun i : Nat => ⟨[(0, mks l), (1, .fn g [cap]), (7, it (l.length : Nat)), (8, it i)], []⟩)
  (fun i => i ≤ l.length ∧ ∀ j y, j < i → l[j]? = some y → p y = false) (fun i => l.length - i) 0 ⟨by repeat first|trivial|refine ⟨rfl,?_⟩,by repeat first|exact .nil|refine .cons (by repeat constructor) ?_⟩ ⟨Nat.zero_le _, fun j y h => by omega⟩ ?_
 rintro i ⟨hi, hj⟩
 by_cases hin : i < l.length
 ·obtain ⟨e, hx⟩ := get_of hin
  repeat' (first|refine Sp.h ?_|refine Lk.r rfl ?_|refine Rf.mk rfl ?_|(apply Bd.t;(focus first|assumption|omega|rfl))|(refine Bd.mk ?_ ?_ <;> intro _)|(apply Ix.q;(focus exact rfl);(focus assumption))|refine Ch.l ⟨rfl, rfl⟩ ?_|(apply Nm.r;focus repeat constructor)|(apply Rf.mk;(focus assumption))|(apply Ov.n;(focus first|omega|(simp <;> omega)))|(apply Cl.p (hg e);(focus repeat' (first|exact Lend.nil|apply Lend.keep|fail))))
  ·rename_i hp
   exact Fin.p rfl (by rw [idxI, idxN_of hx hp hj, if_pos hin])
  ·rename_i hp
   refine PA.lp (i + 1) ⟨by repeat first|trivial|refine ⟨rfl,?_⟩,by repeat first|exact .nil|refine .cons (by repeat constructor) ?_⟩ ⟨⟨hin, fun j y h1 h2 => ?_⟩, by omega⟩
   by_cases hij : j = i
   ·subst hij;rw [hx] at h2;cases h2;simpa using hp
   ·exact hj j y (by omega) h2
 ·repeat' (first|refine Sp.h ?_|refine Lk.r rfl ?_|refine Rf.mk rfl ?_|(apply Bd.f;(focus first|assumption|omega|exact Bool.false_ne_true))|(apply Nm.r;focus repeat constructor)|fail)
  exact Fin.p rfl (by rw [idxI, idxN_none (fun x hx => by obtain ⟨j, hx⟩ := List.getElem?_of_mem hx;exact hj j x (by have := (List.getElem?_eq_some_iff.1 hx).1;omega) hx), if_neg (by omega)])
theorem containsK_p {g : FuncId} {cap : AV} {p : MkS → Bool} (hg : ∀ x, CallP Tryz.prog g [mA x, cap] (bl (p x))) (he : en g = true) (l : List MkS) :
  CallP Tryz.prog 281 [mks l, .fn g [cap]] (bl (decide (idxN p l < l.length))) := by
 refine CallA.of pg ord281 Tryz.func281 rfl Tryz.ntmps281 Tryz.results281 rfl fun h0 G0 O0 => ?_
 repeat' (first|refine Sp.h ?_|refine Lk.r rfl ?_|refine Rf.mk rfl ?_|(apply Nm.r;focus repeat constructor)|(apply Cl.p (indexK_p hg he l);(focus repeat' (first|exact Lend.nil|apply Lend.keep|fail))))
 refine Fin.p rfl (vb (decide_eq_decide.2 ?_))
 unfold idxI
 split <;> omega
theorem idxN_lt {α : Type} {p : α → Bool} {l : List α} : idxN p l < l.length ↔ ∃ x ∈ l, p x = true := by
 constructor
 ·intro h
  obtain ⟨x, h1, h2, _⟩ := idxN_at h
  exact ⟨x, List.mem_of_getElem? h1, h2⟩
 ·rintro ⟨x, hx, hp⟩
  refine Classical.byContradiction fun h => ?_
  have hle := idxN_le p l
  have he : idxN p l = l.length := by omega
  have key : ∀ l : List α, idxN p l = l.length → ∀ x ∈ l, p x = false := by
   intro l
   induction l with
   | nil => intro _ x h;cases h
   | cons a l ih =>
    intro h x hx
    by_cases ha : p a = true
    ·simp [idxN, ha] at h
    ·have ha' : p a = false := by simpa using ha
     simp [idxN, ha'] at h
     rcases List.mem_cons.1 hx with rfl|hx
     ·exact ha'
     ·exact ih h x hx
  rw [key l he x hx] at hp
  cases hp
def mkV (x : MkS) : List Value := [.int .i64 x.rep, .int .i64 x.num, .int .i64 x.time, .int .i64 x.val]
theorem mkV_map (l : List MkS) : (l.map mkV).map valR = l.map mkC := by rw [List.map_map];rfl
theorem filt_idx {α : Type} {p : α → Bool} : ∀ {l : List α}, idxN p l < l.length → (l.take (idxN p l + 1)).filter (fun x => !p x) = l.take (idxN p l) := by
 intro l
 induction l with
 | nil => intro h;simp at h
 | cons a l ih =>
  intro h
  by_cases ha : p a = true
  ·simp [idxN, ha]
  ·have ha' : p a = false := by simpa using ha
   have he : idxN p (a :: l) = idxN p l + 1 := by simp [idxN, ha']
   rw [he] at h ⊢
   have := ih (by simpa using h)
   rw [List.take_succ_cons, List.filter_cons, List.take_succ_cons, this]
   simp [ha']
set_option maxHeartbeats 1000000 in
theorem deleteK_a {g : FuncId} {cap : AV} {p : MkS → Bool} (hg : ∀ x, CallP Tryz.prog g [mA x, cap] (bl (p x))) (he : en g = true) (w : Value) (l : List MkS) (hl : l.length ≤ 1000000) :
  CallA Tryz.prog 294 [.ow w, .fn g [cap]] [arrR w 125 4 l mkC] fun q own => ∃ w', q = .ow w' ∧ own = [arrR w' 125 4 (l.filter fun x => !p x) mkC] := by
 have hix := indexK_p hg he l
 refine CallA.of pg ord294 Tryz.func294 rfl Tryz.ntmps294 Tryz.results294 rfl fun h0 G0 O0 => ?_
 repeat' (first|refine Sp.h ?_|refine Lk.r rfl ?_|refine Rf.mk rfl ?_|fail)
 (apply Cl.lend (hix);(focus repeat' (first|exact Lend.nil|apply Lend.keep|(apply Lend.lend;(focus repeat constructor);(focus first|omega|(simp;omega)))|fail)))
 by_cases hn : idxN p l < l.length
 ·have hI : idxI p l = (idxN p l : Nat) := if_pos hn
  rw [hI]
  repeat' (first|refine Sp.h ?_|refine Lk.r rfl ?_|refine Rf.mk rfl ?_|(apply Bd.f;(focus first|assumption|omega|exact Bool.false_ne_true))|(apply Ov.n;(focus first|omega|(simp <;> omega)))|fail)
  refine CA.loop (fun x : Nat × Nat × List MkS => ⟨[(0, .ow w), (1, .fn g [cap]), (5, it x.1), (6, it x.2.1)], [arrR w 125 4 x.2.2 mkC]⟩)
   (fun x => x.1 < x.2.1 ∧ x.2.1 ≤ l.length ∧ x.2.2.length = l.length ∧ x.2.2.take x.1 = (l.take x.2.1).filter (fun x => !p x) ∧ x.2.2.drop x.2.1 = l.drop x.2.1) (fun x => l.length - x.2.1) (idxN p l, idxN p l + 1, l) ⟨by repeat first|trivial|refine ⟨rfl,?_⟩,by repeat first|exact .nil|refine .cons (by repeat constructor) ?_⟩ ⟨Nat.lt_succ_self _, hn, rfl, (filt_idx hn).symm, rfl⟩ ?_
  rintro ⟨i, j, cur⟩ ⟨h1, h2, h3, h4, h5⟩
  simp only at h1 h2 h3 h4 h5
  simp only
  by_cases hj : j < l.length
  ·obtain ⟨x, hx⟩ := get_of hj
   have hcx : cur[j]? = some x := by
    have := congrArg (fun z => z[0]?) h5
    simpa [List.getElem?_drop, hx] using this
   obtain ⟨y, hy⟩ := get_of (l := cur) (i := i) (by omega)
   have h6 : cur.drop (j + 1) = l.drop (j + 1) := by rw [← List.drop_drop, h5, List.drop_drop]
   have h7 : l.take (j + 1) = l.take j ++ [x] := by rw [List.take_add_one, hx];rfl
   repeat' (first|refine Sp.h ?_|refine Lk.r rfl ?_|refine Rf.mk rfl ?_|(apply Bd.t;(focus first|assumption|omega|rfl))|(refine Bd.mk ?_ ?_ <;> intro _)|(refine All.mk ?_;intro _)|(apply TkA.r;(focus repeat constructor))|(apply TkB.r;(focus repeat constructor))|(apply Ix.q;(focus exact rfl);(focus assumption))|(apply At.r;(focus assumption))|refine Ch.l ⟨rfl, rfl⟩ ?_|(apply SetAsk.r;(focus (repeat (first|exact SetAs.z|(apply SetAs.c;(focus (repeat first|assumption|constructor)))))))|(apply Nm.r;focus repeat constructor)|refine Up.r rfl ?_|(apply Rf.mk;(focus assumption))|(apply Ov.n;(focus first|omega|(simp <;> omega)))|(apply Cl.p (hg x);(focus repeat' (first|exact Lend.nil|apply Lend.keep|fail))))
   ·rename_i hp
    exact PA.lp (i, j + 1, cur) ⟨by repeat first|trivial|refine ⟨rfl,?_⟩,by repeat first|exact .nil|refine .cons (by repeat constructor) ?_⟩ ⟨⟨by simp only;omega, hj, h3, by simp only;rw [h7, List.filter_append, h4];simp [hp], h6⟩, by simp only;omega⟩
   ·rename_i hp
    have hp : p x = false := by simpa using hp
    have h8 : (cur.set i x).take (i + 1) = cur.take i ++ [x] := by
     rw [List.take_add_one, List.getElem?_set, if_pos rfl, if_pos (by omega), List.take_set_of_le (Nat.le_refl _)];rfl
    exact PA.lp (i + 1, j + 1, cur.set i x) ⟨by repeat first|trivial|refine ⟨rfl,?_⟩,by repeat first|exact .nil|refine .cons (by repeat constructor) ?_⟩ ⟨⟨by simp only;omega, hj, by simp only;rw [List.length_set];exact h3, by simp only;rw [h7, List.filter_append, h8, h4];simp [hp], by simp only;rw [List.drop_set_of_lt (by omega)];exact h6⟩, by simp only;omega⟩
  ·have hje : j = l.length := by omega
   subst hje
   rw [List.take_length] at h4
   (repeat' (first|(show CA _ _ (Code.region 11 _ _) _ _;apply Stopped.out)|refine Sp.h ?_|refine Lk.r rfl ?_|refine Rf.mk rfl ?_|(apply Bd.f;(focus first|assumption|omega|exact Bool.false_ne_true))|(apply TkA.r;(focus repeat constructor))|fail));any_goals apply Stopped.mk
   apply CA.retype (m := cur.map mkV) (g := valR)
   focus (repeat constructor)
   focus exact mkV_map cur
   apply CA.toX 0
   focus rfl
   focus (repeat constructor)
   intro hcap
   rw [List.length_map] at hcap
   (repeat' (first|(show CA _ _ Code.ret _ _;apply Stopped.out)|refine Sp.h ?_|refine Lk.r rfl ?_|refine Rf.mk rfl ?_|(apply Om.mk;(focus first|omega|(simp <;> omega)))|refine Rf.mk ⟨rfl, rfl⟩ ?_|refine Rf.mk ⟨rfl, rfl, rfl⟩ ?_|(apply Jx.r;(focus exact rfl);(focus first|omega|(simp;done)|(simp;omega)))|(apply TkX.r;(focus repeat constructor))|(apply ExX.short;(focus rfl);(focus first|omega|(simp <;> omega));(focus first|omega|(simp <;> omega)))|fail));any_goals apply Stopped.mk
   apply CA.retype (m := l.filter fun x => !p x) (g := mkC)
   focus (repeat constructor)
   focus (rw [← h4, ← mkV_map, List.map_take];simp [List.take_take])
   repeat' (first|refine Sp.h ?_|refine Lk.r rfl ?_|(apply Nm.r;focus repeat constructor)|fail)
   exact ⟨_, _, .one (.same (.nil (by (repeat first|exact .nil|refine .cons (by repeat constructor) ?_)))), _, rfl, rfl⟩
 ·have hI : idxI p l = -1 := if_neg hn
  have hall : l.filter (fun x => !p x) = l := List.filter_eq_self.2 fun x hx => by
   have h9 : ¬ ∃ x ∈ l, p x = true := fun h => hn (idxN_lt.2 h)
   cases hpx : p x
   ·rfl
   ·exact absurd ⟨x, hx, hpx⟩ h9
  rw [hI, hall]
  repeat' (first|refine Sp.h ?_|refine Lk.r rfl ?_|refine Rf.mk rfl ?_|(apply Bd.t;(focus first|assumption|omega|rfl))|(apply Nm.r;focus repeat constructor)|fail)
  exact ⟨_, _, .one (.same (.nil (by (repeat first|exact .nil|refine .cons (by repeat constructor) ?_)))), _, rfl, rfl⟩
end Go.Proofs.YtmllihbhphnolaaGreat
namespace Go.CF
open Go
def bunR (rs : List Res) : Res :=
  ⟨fun h O G => ∃ Os, OwnL h G rs Os ∧ Apart Os ∧ ∀ b, O b ↔ U Os b,
   fun {_ _ _ _} x ⟨Os, h1, h2, h3⟩ => ⟨Os, OwnL.stp (fun O' hO' => x.mono fun b hb => hb.imp (fun h => (h3 b).2 ⟨O', hO', h⟩) id) h1, h2, h3⟩,
   fun x ⟨Os, h1, h2, h3⟩ => ⟨Os, h1.mono x, h2, h3⟩⟩
section
variable {h0 : Heap} {G0 O0 : Nat → Prop} {h : Heap} {G : Nat → Prop} {Os : List (Nat → Prop)} {rs rest : List Res} {O : Nat → Prop}
theorem HpOK.unbun (c : HpOK h0 G0 O0 (bunR rs :: rest) h G (O :: Os)) : ∃ Os', OwnL h G rs Os' ∧ HpOK h0 G0 O0 (rs ++ rest) h G (Os' ++ Os) := by
 obtain ⟨⟨Os', h1, h2, h3⟩, hrest⟩ := c.own
 have hd := List.pairwise_cons.1 c.d
 refine ⟨Os', h1, h1.app hrest, c.g, c.g0, fun X hX b hb => ?_, List.pairwise_append.2 ⟨h2, hd.2, fun A hA B hB b ha hb => hd.1 B hB b ((h3 b).2 ⟨A, hA, ha⟩) hb⟩, c.fp⟩
 rcases List.mem_append.1 hX with hX|hX
 ·exact c.o O (by simp) b ((h3 b).2 ⟨X, hX, hb⟩)
 ·exact c.o X (by simp [hX]) b hb
theorem HpOK.bun {Os1 Os2 : List (Nat → Prop)} (c : HpOK h0 G0 O0 (rs ++ rest) h G (Os1 ++ Os2)) (h1 : OwnL h G rs Os1) (h2 : OwnL h G rest Os2) : HpOK h0 G0 O0 (bunR rs :: rest) h G (U Os1 :: Os2) := by
 obtain ⟨d1, d2, d3⟩ := List.pairwise_append.1 c.d
 refine ⟨⟨⟨Os1, h1, d1, fun b => Iff.rfl⟩, h2⟩, c.g, c.g0, fun X hX b hb => ?_, List.pairwise_cons.2 ⟨fun B hB b ⟨A, hA, ha⟩ hb => d3 A hA B hB b ha hb, d2⟩, c.fp⟩
 rcases List.mem_cons.1 hX with rfl|hX
 ·obtain ⟨A, hA, ha⟩ := hb
  exact c.o A (by simp [hA]) b ha
 ·exact c.o X (by simp [hX]) b hb
end
section
variable {Γ : Cx} {k : List KI} {e : EA} {o : List Res} {α : Type} {l : List α} {g : α → Res}
theorem CA.bunTake {y : Code} {i : Nat} {x : α} {rest : List Res} (tk : Take o (bunR (l.map g)) rest) (hx : l[i]? = some x) (h : CA Γ k y e (g x :: bunR ((l.eraseIdx i).map g) :: rest)) : CA Γ k y e o := by
 refine ⟨fun env hh G Os cn => ?_⟩
 obtain ⟨O, Os', cn2⟩ := cn.take tk
 obtain ⟨Os1, g1, g2⟩ := cn2.hp.unbun
 have hil := (List.getElem?_eq_some_iff.1 hx).1
 have hsp : l = l.take i ++ x :: l.drop (i + 1) := by
  have h9 := List.drop_eq_getElem_cons hil
  rw [(List.getElem?_eq_some_iff.1 hx).2] at h9
  rw [← h9, List.take_append_drop]
 have hrest := cn2.hp.own.2
 rw [hsp, List.map_append, List.map_cons] at g1
 obtain ⟨A, B, rfl, a1, a2⟩ := OwnL.split g1
 match B, a2 with
 | X :: B, ⟨b1, b2⟩ =>
  have hp : (A ++ X :: B ++ Os').Perm (X :: ((A ++ B) ++ Os')) := by
   rw [List.append_assoc, List.cons_append]
   exact List.perm_middle.trans (by rw [List.append_assoc])
  have herase : (l.eraseIdx i).map g = (l.take i).map g ++ (l.drop (i + 1)).map g := by rw [List.eraseIdx_eq_take_drop_succ, List.map_append]
  have c3 : HpOK Γ.h0 Γ.G0 Γ.O0 (g x :: ((l.eraseIdx i).map g ++ rest)) hh G (X :: ((A ++ B) ++ Os')) :=
   g2.perm ⟨b1, by rw [herase];exact (a1.app b2).app hrest⟩ hp
  have c4 : HpOK Γ.h0 Γ.G0 Γ.O0 (((l.eraseIdx i).map g) ++ (g x :: rest)) hh G ((A ++ B) ++ (X :: Os')) :=
   c3.perm (by rw [herase];exact (a1.app b2).app ⟨b1, hrest⟩) List.perm_middle.symm
  have c5 := c4.bun (by rw [herase];exact a1.app b2) ⟨b1, hrest⟩
  have c6 : HpOK Γ.h0 Γ.G0 Γ.O0 (g x :: bunR ((l.eraseIdx i).map g) :: rest) hh G (X :: U (A ++ B) :: Os') :=
   c5.perm ⟨b1, c5.own.1, hrest⟩ (List.Perm.swap _ _ _)
  exact h.h env hh G _ ⟨c6, cn.env, cn.nf⟩
theorem CA.bunPush {y : Code} {x : α} {rest1 rest2 : List Res} (tk1 : Take o (bunR (l.map g)) rest1) (tk2 : Take rest1 (g x) rest2) (h : CA Γ k y e (bunR ((l ++ [x]).map g) :: rest2)) : CA Γ k y e o := by
 refine ⟨fun env hh G Os cn => ?_⟩
 obtain ⟨O, Os', cn2⟩ := cn.take tk1
 obtain ⟨X, Os2, r1, r2, r3⟩ := tk2.own cn2.hp.own.2
 have c2 : HpOK Γ.h0 Γ.G0 Γ.O0 (bunR (l.map g) :: g x :: rest2) hh G (O :: X :: Os2) := cn2.hp.perm ⟨cn2.hp.own.1, r1, r2⟩ (List.Perm.cons O r3)
 obtain ⟨A, g1, g2⟩ := c2.unbun
 have c3 : HpOK Γ.h0 Γ.G0 Γ.O0 ((l.map g ++ [g x]) ++ rest2) hh G ((A ++ [X]) ++ Os2) := by
  rw [List.append_assoc, List.append_assoc];exact g2
 have c4 := c3.bun (g1.app (r1 := l.map g) (r2 := [g x]) ⟨r1, trivial⟩) r2
 rw [show l.map g ++ [g x] = (l ++ [x]).map g by simp] at c4
 exact h.h env hh G _ ⟨c4, cn.env, cn.nf⟩
theorem CA.bunPut {y : Code} {i : Nat} {x : α} {rest1 rest2 : List Res} (tk1 : Take o (bunR ((l.eraseIdx i).map g)) rest1) (tk2 : Take rest1 (g x) rest2) (hi : i < l.length) (h : CA Γ k y e (bunR ((l.set i x).map g) :: rest2)) : CA Γ k y e o := by
 refine ⟨fun env hh G Os cn => ?_⟩
 obtain ⟨O, Os', cn2⟩ := cn.take tk1
 obtain ⟨X, Os2, r1, r2, r3⟩ := tk2.own cn2.hp.own.2
 have c2 : HpOK Γ.h0 Γ.G0 Γ.O0 (bunR ((l.eraseIdx i).map g) :: g x :: rest2) hh G (O :: X :: Os2) := cn2.hp.perm ⟨cn2.hp.own.1, r1, r2⟩ (List.Perm.cons O r3)
 obtain ⟨A, g1, g2⟩ := c2.unbun
 have herase : (l.eraseIdx i).map g = (l.take i).map g ++ (l.drop (i + 1)).map g := by rw [List.eraseIdx_eq_take_drop_succ, List.map_append]
 have hset : (l.set i x).map g = (l.take i).map g ++ g x :: (l.drop (i + 1)).map g := by
  rw [List.set_eq_take_append_cons_drop, if_pos hi, List.map_append, List.map_cons]
 rw [herase] at g1 g2
 obtain ⟨B, C, rfl, b1, b2⟩ := OwnL.split g1
 have hp : (B ++ C ++ X :: Os2).Perm ((B ++ X :: C) ++ Os2) := by
  rw [List.append_assoc, List.append_assoc, List.cons_append]
  exact List.Perm.append_left B List.perm_middle
 have c3 : HpOK Γ.h0 Γ.G0 Γ.O0 ((l.set i x).map g ++ rest2) hh G ((B ++ X :: C) ++ Os2) := g2.perm (by rw [hset];exact OwnL.app (OwnL.app b1 (show OwnL hh G (g x :: (l.drop (i + 1)).map g) (X :: C) from ⟨r1, b2⟩)) r2) hp
 have c4 := c3.bun (by rw [hset];exact OwnL.app b1 (show OwnL hh G (g x :: (l.drop (i + 1)).map g) (X :: C) from ⟨r1, b2⟩)) r2
 exact h.h env hh G _ ⟨c4, cn.env, cn.nf⟩
theorem CA.bunNil {y : Code} (g : α → Res) (h : CA Γ k y e (bunR (([] : List α).map g) :: o)) : CA Γ k y e o := by
 refine ⟨fun env hh G Os cn => ?_⟩
 have c4 : HpOK Γ.h0 Γ.G0 Γ.O0 (bunR (([] : List α).map g) :: o) hh G (U [] :: Os) := HpOK.bun (rs := []) (Os1 := []) cn.hp trivial cn.hp.own
 exact h.h env hh G _ ⟨c4, cn.env, cn.nf⟩
end
end Go.CF
namespace Go.Proofs.YtmllihbhphnolaaGreat
open Go Go.CF
set_option maxRecDepth 20000
theorem cloneK_o (l : List MkS) (hl : l.length ≤ 1000000000) : CallO Tryz.prog 193 [mks l] 125 4 l mkC := by
 refine CallA.of pg ord193 Tryz.func193 rfl Tryz.ntmps193 Tryz.results193 rfl fun h0 G0 O0 => ?_
 repeat' (first|refine Sp.h ?_|refine Lk.r rfl ?_|refine Rf.mk rfl ?_|(refine Bd.mk ?_ ?_ <;> intro _)|(apply Om.mk;(focus first|omega|(simp <;> omega)))|(refine Im.mk ?_;intro _)|(refine All.mk ?_;intro _)|(apply TkA.r;(focus repeat constructor))|refine Ce.l rfl ?_|(apply Fk.r;(focus (repeat (first|exact FillA.nil|(apply FillA.agg;(focus rfl);(focus rfl);(focus (repeat (first|exact SetAs.z|(apply SetAs.c;(focus (repeat first|assumption|constructor)))))))|(apply FillA.one;(focus rfl);(focus infer_instance);(focus (repeat first|assumption|constructor)))))))|(apply Nm.r;focus repeat constructor)|refine Rf.mk ⟨rfl, rfl⟩ ?_|refine Rf.mk ⟨rfl, rfl, rfl⟩ ?_|refine Mp.same ?_|fail)
 ·rename_i b hb hbt
  have hl0 : l = [] := Decidable.byContradiction fun h => by rw [hb h] at hbt;cases hbt
  subst hl0
  exact ⟨_, _, .one (.nils (.nil (by (repeat first|exact .nil|refine .cons (by repeat constructor) ?_)))), _, rfl, rfl⟩
 ·repeat' (first|fail)
  exact ⟨_, _, .one (.same (.nil (by (repeat first|exact .nil|refine .cons (by repeat constructor) ?_)))), _, rfl, rfl⟩
theorem cloneG_o (l : List MgS) (hl : l.length ≤ 1000000000) : CallO Tryz.prog 192 [mgs l] 123 3 l mgC := by
 refine CallA.of pg ord192 Tryz.func192 rfl Tryz.ntmps192 Tryz.results192 rfl fun h0 G0 O0 => ?_
 repeat' (first|refine Sp.h ?_|refine Lk.r rfl ?_|refine Rf.mk rfl ?_|(refine Bd.mk ?_ ?_ <;> intro _)|(apply Om.mk;(focus first|omega|(simp <;> omega)))|(refine Im.mk ?_;intro _)|(refine All.mk ?_;intro _)|(apply TkA.r;(focus repeat constructor))|refine Ce.l rfl ?_|(apply Fk.r;(focus (repeat (first|exact FillA.nil|(apply FillA.agg;(focus rfl);(focus rfl);(focus (repeat (first|exact SetAs.z|(apply SetAs.c;(focus (repeat first|assumption|constructor)))))))|(apply FillA.one;(focus rfl);(focus infer_instance);(focus (repeat first|assumption|constructor)))))))|(apply Nm.r;focus repeat constructor)|refine Rf.mk ⟨rfl, rfl⟩ ?_|refine Rf.mk ⟨rfl, rfl, rfl⟩ ?_|refine Mp.same ?_|fail)
 ·rename_i b hb hbt
  have hl0 : l = [] := Decidable.byContradiction fun h => by rw [hb h] at hbt;cases hbt
  subst hl0
  exact ⟨_, _, .one (.nils (.nil (by (repeat first|exact .nil|refine .cons (by repeat constructor) ?_)))), _, rfl, rfl⟩
 ·repeat' (first|fail)
  exact ⟨_, _, .one (.same (.nil (by (repeat first|exact .nil|refine .cons (by repeat constructor) ?_)))), _, rfl, rfl⟩
structure MgE where
 put : Bool
 drop : Bool
 w : Value
 marks : List MkS
def MgE.g (e : MgE) : MgS := ⟨e.put, e.drop, e.marks⟩
def mgeC (e : MgE) : List AV := [bl e.put, bl e.drop, .ow e.w]
abbrev mgeR (e : MgE) : Res := arrR e.w 125 4 e.marks mkC
def ogC (x : Bool × Bool × AV) : List AV := [bl x.1, bl x.2.1, x.2.2]
instance {a b : Bool} {c : AV} : Inv ogC [bl a, bl b, c] (a, b, c) := ⟨rfl⟩
def ogE (e : MgE) : Bool × Bool × AV := (e.put, e.drop, .ow e.w)
def ogG (g : MgS) : Bool × Bool × AV := (g.put, g.drop, mks g.marks)
theorem ogE_map (l : List MgE) : l.map mgeC = (l.map ogE).map ogC := by rw [List.map_map];rfl
theorem ogG_map (l : List MgS) : (l.map ogG).map ogC = l.map mgC := by rw [List.map_map];rfl
abbrev outR (v : Value) (L : List MgE) : List Res := [arrR v 123 3 L mgeC, bunR (L.map mgeR)]
theorem clone34_a (l : List MgS) (hl : l.length ≤ 1000000) (hm : ∀ g ∈ l, g.marks.length ≤ 1000000) :
  CallA Tryz.prog 187 [mgs l] [] fun r own => ∃ v L, r = .ow v ∧ L.map MgE.g = l ∧ own = outR v L := by
 have hc := cloneG_o l (by omega)
 refine CallA.of pg ord187 Tryz.func187 rfl Tryz.ntmps187 Tryz.results187 rfl fun h0 G0 O0 => ?_
 repeat' (first|refine Sp.h ?_|refine Lk.r rfl ?_|refine Rf.mk rfl ?_|fail)
 (refine Cl.use (hc) (by repeat' (first|exact Lend.nil|apply Lend.keep|fail)) .nil rfl ?_;rintro _ _ ⟨_, rfl, rfl⟩)
 repeat' (first|refine Sp.h ?_|refine Lk.r rfl ?_|refine Rf.mk rfl ?_|(apply TkA.r;(focus repeat constructor))|fail)
 rename_i v
 apply CA.retype (m := l.map ogG) (g := ogC)
 focus (repeat constructor)
 focus exact ogG_map l
 refine CA.bunNil mgeR ?_
 refine CA.loop (fun x : Nat × List MgE => ⟨[(3, .ow v), (8, it (l.length : Nat)), (9, it x.1)], [arrR v 123 3 (x.2.map ogE ++ (l.drop x.1).map ogG) ogC, bunR (x.2.map mgeR)]⟩)
  (fun x => x.1 ≤ l.length ∧ x.2.map MgE.g = l.take x.1) (fun x => l.length - x.1) (0, []) ⟨by repeat first|trivial|refine ⟨rfl,?_⟩,by repeat first|exact .nil|refine .cons (by repeat constructor) ?_⟩ ⟨Nat.zero_le _, by simp⟩ ?_
 rintro ⟨i, D⟩ ⟨hi, hD⟩
 simp only at hi hD
 simp only
 by_cases hin : i < l.length
 ·obtain ⟨g, hg⟩ := get_of hin
  have hgm := hm g (List.mem_of_getElem? hg)
  have hDl : D.length = i := by have := congrArg List.length hD;simp at this;omega
  have hdr : (l.drop i).map ogG = ogG g :: (l.drop (i + 1)).map ogG := by
   have h9 := List.drop_eq_getElem_cons hin
   rw [(List.getElem?_eq_some_iff.1 hg).2] at h9
   rw [h9, List.map_cons]
  have hrow : (D.map ogE ++ (l.drop i).map ogG)[i]? = some (g.put, g.drop, mks g.marks) := by
   rw [hdr, List.getElem?_append_right (by simp;omega)];simp [hDl, ogG]
  have hcl := cloneK_o g.marks (by omega)
  repeat' (first|refine Sp.h ?_|refine Lk.r rfl ?_|refine Rf.mk rfl ?_|(apply Bd.t;(focus first|assumption|omega|rfl))|(apply TkA.r;(focus repeat constructor))|(apply Ix.q;(focus exact rfl);(focus assumption))|(apply At.r;(focus assumption))|fail)
  (refine Cl.use (hcl) (by repeat' (first|exact Lend.nil|apply Lend.keep|fail)) .nil rfl ?_;rintro _ _ ⟨_, rfl, rfl⟩)
  (repeat' (first|(show CA _ _ (Code.region 6 _ _) _ _;apply Stopped.out)|refine Sp.h ?_|refine Lk.r rfl ?_|refine Rf.mk rfl ?_|(apply TkA.r;(focus repeat constructor))|(apply Ix.q;(focus exact rfl);(focus assumption))|(apply At.r;(focus assumption))|(apply SetAk.r;(focus (repeat first|assumption|constructor)))|(apply Up.inv;(focus repeat constructor);(focus infer_instance))|fail));any_goals apply Stopped.mk
  rename_i w2
  have hset : (D.map ogE ++ (l.drop i).map ogG).set i (g.put, g.drop, .ow w2) = (D ++ [(MgE.mk g.put g.drop w2 g.marks)]).map ogE ++ (l.drop (i + 1)).map ogG := by
   rw [hdr, List.set_append, if_neg (by simp;omega)]
   simp [hDl, ogE]
  rw [hset]
  apply CA.bunPush (g := mgeR) (x := (MgE.mk g.put g.drop w2 g.marks))
  focus (repeat constructor)
  focus (repeat constructor)
  repeat' (first|refine Sp.h ?_|refine Lk.r rfl ?_|refine Rf.mk rfl ?_|(apply Ov.n;(focus first|omega|(simp <;> omega)))|fail)
  exact PA.lp (i + 1, D ++ [(MgE.mk g.put g.drop w2 g.marks)]) ⟨by repeat first|trivial|refine ⟨rfl,?_⟩,by repeat first|exact .nil|refine .cons (by repeat constructor) ?_⟩ ⟨⟨hin, by simp only;rw [List.map_append, hD, List.take_add_one, hg];rfl⟩, by simp only;omega⟩
 ·have hie : i = l.length := by omega
  subst hie
  rw [List.take_length] at hD
  rw [List.drop_length, List.map_nil, List.append_nil]
  (repeat' (first|(show CA _ _ (Code.region 7 _ _) _ _;apply Stopped.out)|refine Sp.h ?_|refine Lk.r rfl ?_|refine Rf.mk rfl ?_|(apply Bd.f;(focus first|assumption|omega|exact Bool.false_ne_true))|fail));any_goals apply Stopped.mk
  apply CA.retype (m := D) (g := mgeC)
  focus (repeat constructor)
  focus exact ogE_map D
  repeat' (first|refine Sp.h ?_|refine Lk.r rfl ?_|refine Rf.mk rfl ?_|(apply Nm.r;focus repeat constructor)|fail)
  exact ⟨_, _, .one (.same (.nil (by (repeat first|exact .nil|refine .cons (by repeat constructor) ?_)))), _, D, rfl, hD, rfl⟩
end Go.Proofs.YtmllihbhphnolaaGreat
