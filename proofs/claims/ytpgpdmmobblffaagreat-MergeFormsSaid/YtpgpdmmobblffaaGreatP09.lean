/- Part 9 of the ground of this proof: what its texts say of the model, the program and the plain data; conditions: those that are named. -/
import Derived.Test.YtpgpdmmobblffaaGreatP08
namespace Go.Proofs.YtpgpdmmobblffaaGreat
open Go Go.CF
set_option maxRecDepth 20000
theorem si_keep {l s : List Int} {x : Int} (h : SI l s) (hx : x ∈ s) : SI (l ++ [x]) s :=
  ⟨h.1, fun y => by
    rw [List.mem_append, List.mem_singleton, h.2]
    exact ⟨.inl, fun e => e.elim id fun e => e ▸ (h.2 x).1 hx⟩⟩
theorem si_ins {l s : List Int} {x : Int} {i : Nat} (h : SI l s) (h1 : ∀ y ∈ s.take i, y < x) (h2 : ∀ y ∈ s.drop i, x < y) : SI (l ++ [x]) (s.take i ++ x :: s.drop i) := by
  have hp := h.1
  rw [← List.take_append_drop i s] at hp
  obtain ⟨p1, p2, p3⟩ := List.pairwise_append.1 hp
  refine ⟨List.pairwise_append.2 ⟨p1, List.pairwise_cons.2 ⟨h2, p2⟩, fun a ha b hb => ?_⟩, fun y => ?_⟩
  · rcases List.mem_cons.1 hb with rfl | hb
    · exact h1 a ha
    · exact p3 a ha b hb
  · have : y ∈ s ↔ y ∈ s.take i ∨ y ∈ s.drop i := by rw [← List.mem_append, List.take_append_drop]
    rw [List.mem_append, List.mem_cons, List.mem_append, List.mem_singleton, ← h.2, this]
    constructor
    · rintro (h | h | h)
      · exact .inl (.inl h)
      · exact .inr h
      · exact .inl (.inr h)
    · rintro ((h | h) | h)
      · exact .inl h
      · exact .inr (.inr h)
      · exact .inr (.inl h)
set_option maxHeartbeats 2000000 in
theorem sorted_p (l : List Int) (hl : l.length ≤ 100000) : CallP Tryz.prog 48 [ints l] (ints (srtD l)) := by
  have hln := srtD_len l
  refine CallA.fz (T := 3) (by omega) ?_
  refine CallA.of pg ord48 Tryz.func48 rfl Tryz.ntmps48 Tryz.results48 rfl fun h0 G0 O0 => ?_
  repeat' (first | refine Sp.h ?_ | refine Lk.r rfl ?_ | refine Rf.mk rfl ?_ | (refine All.mk ?_; intro _) | (apply Fk.r; (focus (repeat (first | exact FillA.nil | (apply FillA.agg; (focus rfl); (focus rfl); (focus (repeat (first | exact SetAs.z | (apply SetAs.c; (focus (repeat (first | assumption | exact SetA.z | apply SetA.s)))))))) | (apply FillA.one; (focus rfl); (focus infer_instance); (focus (repeat (first | assumption | exact SetA.z | apply SetA.s)))))))) | refine Rf.mk ⟨rfl, rfl, rfl⟩ ?_ | fail)
  rename_i v
  apply CA.retype (m := ([] : List Int)) (g := i1)
  focus (repeat (first | exact Take.here | apply Take.there))
  focus rfl
  refine CA.loop (fun x : Nat × Value × List Int => ⟨[(0, ints l), (3, .ow x.2.1), (4, it x.1)], [arrR x.2.1 3 1 x.2.2 i1]⟩) (fun x => x.1 ≤ l.length ∧ x.2.2.length ≤ x.1 ∧ SI (l.take x.1) x.2.2) (fun x => l.length - x.1) (0, v, []) ⟨by (repeat (first | exact trivial | refine ⟨rfl, ?_⟩)), by (repeat (first | exact Subl.nil | refine Subl.cons (by (repeat (first | exact Take.here | apply Take.there))) ?_))⟩ ⟨Nat.zero_le _, by simp, List.Pairwise.nil, by simp⟩ ?_
  rintro ⟨i, w, s⟩ ⟨hi, hsl, hs⟩
  simp only at hi hsl hs
  simp only
  by_cases hin : i < l.length
  · obtain ⟨x, hx⟩ := get_of hin
    have hsu : l.take (i + 1) = l.take i ++ [x] := by rw [List.take_add_one, hx]; rfl
    repeat' (first | refine Sp.h ?_ | refine Lk.r rfl ?_ | refine Rf.mk rfl ?_ | (apply Bd.t; (focus (first | assumption | omega | rfl))) | (refine Im.mk ?_; intro _) | fail)
    refine CA.loop (fun j : Nat => ⟨[(0, ints l), (3, .ow w), (4, it i), (5, it j)], [arrR w 3 1 s i1]⟩) (fun j => j ≤ s.length ∧ ∀ y ∈ s.take j, y < x) (fun j => s.length - j) 0 ⟨by (repeat (first | exact trivial | refine ⟨rfl, ?_⟩)), by (repeat (first | exact Subl.nil | refine Subl.cons (by (repeat (first | exact Take.here | apply Take.there))) ?_))⟩ ⟨Nat.zero_le _, by simp⟩ ?_
    rintro j ⟨hj, hlt⟩
    by_cases hjn : j < s.length
    · obtain ⟨y, hy⟩ := get_of hjn
      by_cases hyx : y < x
      · repeat' (first | refine Sp.h ?_ | refine Lk.r rfl ?_ | refine Rf.mk rfl ?_ | (apply Bd.t; (focus (first | assumption | omega | rfl))) | refine OpK.r rfl ?_ | (apply TkA.r; (focus (repeat (first | exact Take.here | apply Take.there)))) | (apply Ix.q; (focus exact rfl); (focus assumption)) | (apply At.r; (focus assumption)) | (apply CA.draw; (focus rfl); (focus kernel_rfl); (focus kernel_rfl); (focus repeat' (first | apply ON.one | exact ON.done | exact ON.none | apply ON.alt)); (focus rfl)) | (apply Ov.n; (focus first | omega | (simp <;> omega))) | fail)
        exact PA.lp (j + 1) ⟨by (repeat (first | exact trivial | refine ⟨rfl, ?_⟩)), by (repeat (first | exact Subl.nil | refine Subl.cons (by (repeat (first | exact Take.here | apply Take.there))) ?_))⟩ ⟨⟨hjn, all_succ hy hlt hyx⟩, by omega⟩
      · by_cases hye : y = x
        · subst hye
          repeat' (first | refine Sp.h ?_ | refine Lk.r rfl ?_ | refine Rf.mk rfl ?_ | (apply Bd.t; (focus (first | assumption | omega | rfl))) | (apply Bd.f; (focus (first | assumption | omega | exact Bool.false_ne_true))) | refine OpK.r rfl ?_ | (apply TkA.r; (focus (repeat (first | exact Take.here | apply Take.there)))) | (apply Ix.q; (focus exact rfl); (focus assumption)) | (apply At.r; (focus assumption)) | (apply CA.draw; (focus rfl); (focus kernel_rfl); (focus kernel_rfl); (focus repeat' (first | apply ON.one | exact ON.done | exact ON.none | apply ON.alt)); (focus rfl)) | (apply Ov.n; (focus first | omega | (simp <;> omega))) | fail)
          all_goals exact PA.lp (i + 1, w, s) ⟨by (repeat (first | exact trivial | refine ⟨rfl, ?_⟩)), by (repeat (first | exact Subl.nil | refine Subl.cons (by (repeat (first | exact Take.here | apply Take.there))) ?_))⟩ ⟨⟨hin, by simp only; omega, by simp only; rw [hsu]; exact si_keep hs (List.mem_of_getElem? hy)⟩, by simp only; omega⟩
        · have hgt : ∀ z ∈ s.drop j, x < z := fun z hz => by
            obtain ⟨q, hq⟩ := List.getElem?_of_mem hz
            rw [List.getElem?_drop] at hq
            by_cases hq0 : q = 0
            · subst hq0; rw [Nat.add_zero, hy] at hq; cases hq; omega
            · obtain ⟨p1, e1⟩ := List.getElem?_eq_some_iff.1 hq
              obtain ⟨p2, e2⟩ := List.getElem?_eq_some_iff.1 hy
              have := List.pairwise_iff_getElem.1 hs.1 j (j + q) p2 p1 (by omega)
              omega
          have hsi := si_ins hs hlt hgt
          have he : s.take (j - 0) ++ [x] ++ ([] ++ (s.drop j).take (s.length - j)) = s.take j ++ x :: s.drop j := by
            rw [List.take_of_length_le (l := s.drop j) (by simp)]; simp
          repeat' (first | refine Sp.h ?_ | refine Lk.r rfl ?_ | refine Rf.mk rfl ?_ | (apply Bd.t; (focus (first | assumption | omega | rfl))) | (apply Bd.f; (focus (first | assumption | omega | exact Bool.false_ne_true))) | refine OpK.r rfl ?_ | (apply Om.mk; (focus first | omega | (simp <;> omega))) | (refine All.mk ?_; intro _) | (apply TkA.r; (focus (repeat (first | exact Take.here | apply Take.there)))) | (apply Ix.q; (focus exact rfl); (focus assumption)) | (apply At.r; (focus assumption)) | refine Ce.l rfl ?_ | refine Ce.r ?_ | (apply Fk.r; (focus (repeat (first | exact FillA.nil | (apply FillA.agg; (focus rfl); (focus rfl); (focus (repeat (first | exact SetAs.z | (apply SetAs.c; (focus (repeat (first | assumption | exact SetA.z | apply SetA.s)))))))) | (apply FillA.one; (focus rfl); (focus infer_instance); (focus (repeat (first | assumption | exact SetA.z | apply SetA.s)))))))) | refine Rf.mk ⟨rfl, rfl⟩ ?_ | refine Rf.mk ⟨rfl, rfl, rfl⟩ ?_ | (apply Jx.r; (focus exact rfl); (focus first | omega | (simp; done) | (simp; omega))) | refine Mp.same ?_ | (apply Mp.lit; (focus repeat (first | exact MpL.nil | (apply MpL.cons; (focus rfl)) | (apply MpL.inv; (focus repeat (first | apply LN.cons | exact LN.nil)); (focus infer_instance))))) | (apply CA.draw; (focus rfl); (focus kernel_rfl); (focus kernel_rfl); (focus repeat' (first | apply ON.one | exact ON.done | exact ON.none | apply ON.alt)); (focus rfl)) | (apply Ov.n; (focus first | omega | (simp <;> omega))) | fail)
          all_goals rw [he]
          all_goals exact PA.lp (i + 1, _, s.take j ++ x :: s.drop j) ⟨by (repeat (first | exact trivial | refine ⟨rfl, ?_⟩)), by (repeat (first | exact Subl.nil | refine Subl.cons (by (repeat (first | exact Take.here | apply Take.there))) ?_))⟩ ⟨⟨hin, by simp only [List.length_append, List.length_cons, List.length_take, List.length_drop]; omega, by simp only; rw [hsu]; exact hsi⟩, by simp only; omega⟩
    · have hje : j = s.length := by omega
      subst hje
      rw [List.take_length] at hlt
      have hsi := si_ins (i := s.length) hs (by rw [List.take_length]; exact hlt) (by rw [List.drop_length]; simp)
      rw [List.take_length, List.drop_length] at hsi
      have he : s.take (s.length - 0) ++ [x] ++ ([] ++ (s.drop s.length).take (s.length - s.length)) = s ++ [x] := by simp
      repeat' (first | refine Sp.h ?_ | refine Lk.r rfl ?_ | refine Rf.mk rfl ?_ | (apply Bd.f; (focus (first | assumption | omega | exact Bool.false_ne_true))) | refine OpK.r rfl ?_ | (apply Om.mk; (focus first | omega | (simp <;> omega))) | (refine All.mk ?_; intro _) | (apply TkA.r; (focus (repeat (first | exact Take.here | apply Take.there)))) | (apply Ix.q; (focus exact rfl); (focus assumption)) | refine Ce.l rfl ?_ | refine Ce.r ?_ | (apply Fk.r; (focus (repeat (first | exact FillA.nil | (apply FillA.agg; (focus rfl); (focus rfl); (focus (repeat (first | exact SetAs.z | (apply SetAs.c; (focus (repeat (first | assumption | exact SetA.z | apply SetA.s)))))))) | (apply FillA.one; (focus rfl); (focus infer_instance); (focus (repeat (first | assumption | exact SetA.z | apply SetA.s)))))))) | refine Rf.mk ⟨rfl, rfl⟩ ?_ | refine Rf.mk ⟨rfl, rfl, rfl⟩ ?_ | (apply Jx.r; (focus exact rfl); (focus first | omega | (simp; done) | (simp; omega))) | refine Mp.same ?_ | (apply Mp.lit; (focus repeat (first | exact MpL.nil | (apply MpL.cons; (focus rfl)) | (apply MpL.inv; (focus repeat (first | apply LN.cons | exact LN.nil)); (focus infer_instance))))) | (apply CA.draw; (focus rfl); (focus kernel_rfl); (focus kernel_rfl); (focus repeat' (first | apply ON.one | exact ON.done | exact ON.none | apply ON.alt)); (focus rfl)) | (apply Ov.n; (focus first | omega | (simp <;> omega))) | fail)
      all_goals rw [he]
      all_goals exact PA.lp (i + 1, _, s ++ [x]) ⟨by (repeat (first | exact trivial | refine ⟨rfl, ?_⟩)), by (repeat (first | exact Subl.nil | refine Subl.cons (by (repeat (first | exact Take.here | apply Take.there))) ?_))⟩ ⟨⟨hin, by simp only [List.length_append, List.length_cons, List.length_nil]; omega, by simp only; rw [hsu]; exact hsi⟩, by simp only; omega⟩
  · have hie : i = l.length := by omega
    subst hie
    rw [List.take_length] at hs
    have he : s = srtD l := hs.uniq (srtD_si l)
    subst he
    repeat' (first | refine Sp.h ?_ | refine Lk.r rfl ?_ | refine Rf.mk rfl ?_ | (apply Bd.f; (focus (first | assumption | omega | exact Bool.false_ne_true))) | (refine Im.mk ?_; intro _) | (apply Nm.r; (focus repeat (first | apply LN.cons | exact LN.nil))) | fail)
    exact ⟨_, _, .one (.same (.nil (by (repeat (first | exact Subl.nil | refine Subl.cons (by (repeat (first | exact Take.here | apply Take.there))) ?_))))), _, rfl, rfl⟩
end Go.Proofs.YtpgpdmmobblffaaGreat
namespace Go.Proofs.YtpgpdmmobblffaaGreat
open Go Go.CF
set_option maxRecDepth 20000
noncomputable def valsF (ts : List TblS) (l : List MgS) : List (List Int) := (ts.zip l).map fun p => valK p.1 p.2
theorem valsF_succ {ts : List TblS} {l : List MgS} {i : Nat} {t : TblS} {g : MgS} (ht : ts[i]? = some t) (hg : l[i]? = some g) : valsF (ts.take (i + 1)) (l.take (i + 1)) = valsF (ts.take i) (l.take i) ++ [valK t g] := by
  have h1 := (List.getElem?_eq_some_iff.1 ht).1
  have h2 := (List.getElem?_eq_some_iff.1 hg).1
  rw [List.take_add_one, List.take_add_one, ht, hg, valsF, Option.toList_some, Option.toList_some, List.zip_append (by simp; omega), List.map_append]
  rfl
theorem valsF_len (ts : List TblS) (l : List MgS) : (valsF ts l).length = min ts.length l.length := by simp [valsF]
theorem valL_len {ts : List TblS} {l : List MgS} (hv : ValL ts l) {i : Nat} {t : TblS} {g : MgS} (ht : ts[i]? = some t) (hg : l[i]? = some g) : g.marks.length ≤ 1024 := (hv.2 i t g ht hg).1.2.2.2
theorem valuesM_p (m : ModS) (l : List MgS) (hm : LayOK m.sorts m.tables) (hv : ValL (mrgF m) l) (hl : (mrgF m).length ≤ 1000) :
    CallP Tryz.prog 14 [mdl m, mgs l] (.tup [clks (valsF (mrgF m) l), it 0]) := by
  refine CallA.fzt (T := 22) (by rw [valsF_len]; omega) ?_
  have hva := validM_p m l hm
  have hce := cells_p m hm
  have hlen := hv.1
  refine CallA.of pg ord14 Tryz.func14 rfl Tryz.ntmps14 Tryz.results14 rfl fun h0 G0 O0 => ?_
  repeat' (first | refine Sp.h ?_ | refine Lk.r rfl ?_ | refine Rf.mk rfl ?_ | (apply Bd.t; (focus (first | assumption | omega | rfl))) | (refine Im.mk ?_; intro _) | (refine All.mk ?_; intro _) | (apply TkB.r; (focus (repeat (first | exact Take.here | apply Take.there)))) | refine Ch.l ⟨rfl, rfl⟩ ?_ | fail | (apply Cl.p (hva); (focus repeat' (first | exact Lend.nil | apply Lend.keep | fail))) | (apply Cl.p (hce); (focus repeat' (first | exact Lend.nil | apply Lend.keep | fail))))
  refine CA.nilOwn 6 22 1 clkC rfl fun v => ?_
  refine CA.loop (fun x : Nat × Value => ⟨[(1, mgs l), (6, .ow x.2), (14, tbls (mrgF m)), (15, it ((mrgF m).length : Nat)), (16, it x.1)], [arrR x.2 22 1 (valsF ((mrgF m).take x.1) (l.take x.1)) clkC]⟩) (fun x => x.1 ≤ (mrgF m).length) (fun x => (mrgF m).length - x.1) (0, v) ⟨by (repeat (first | exact trivial | refine ⟨rfl, ?_⟩)), by (repeat (first | exact Subl.nil | refine Subl.cons (by (repeat (first | exact Take.here | apply Take.there))) ?_))⟩ (Nat.zero_le _) ?_
  rintro ⟨i, w⟩ hi
  simp only at hi
  simp only
  by_cases hin : i < (mrgF m).length
  · obtain ⟨t, ht⟩ := get_of hin
    obtain ⟨g, hg⟩ := get_of (l := l) (i := i) (by omega)
    have hsu := valsF_succ ht hg
    have hva := values_p t g (by have := valL_len hv ht hg; omega)
    have hln : (valsF ((mrgF m).take i) (l.take i)).length ≤ 1000 := by rw [valsF_len]; simp; omega
    repeat' (first | refine Sp.h ?_ | refine Lk.r rfl ?_ | refine Rf.mk rfl ?_ | (apply Bd.t; (focus (first | assumption | omega | rfl))) | refine OpK.r rfl ?_ | (apply Om.mk; (focus first | omega | (simp <;> omega))) | (refine All.mk ?_; intro _) | (apply TkA.r; (focus (repeat (first | exact Take.here | apply Take.there)))) | (apply TkB.r; (focus (repeat (first | exact Take.here | apply Take.there)))) | (apply Ix.q; (focus exact rfl); (focus assumption)) | refine Ce.r ?_ | refine Ch.l ⟨rfl, rfl⟩ ?_ | (apply SetAsk.r; (focus (repeat (first | exact SetAs.z | (apply SetAs.c; (focus (repeat (first | assumption | exact SetA.z | apply SetA.s)))))))) | (apply Fk.r; (focus (repeat (first | exact FillA.nil | (apply FillA.agg; (focus rfl); (focus rfl); (focus (repeat (first | exact SetAs.z | (apply SetAs.c; (focus (repeat (first | assumption | exact SetA.z | apply SetA.s)))))))) | (apply FillA.one; (focus rfl); (focus infer_instance); (focus (repeat (first | assumption | exact SetA.z | apply SetA.s)))))))) | (apply Nm.r; (focus repeat (first | apply LN.cons | exact LN.nil))) | refine Rf.mk ⟨rfl, rfl⟩ ?_ | refine Rf.mk ⟨rfl, rfl, rfl⟩ ?_ | (apply Mp.lit; (focus repeat (first | exact MpL.nil | (apply MpL.cons; (focus rfl)) | (apply MpL.inv; (focus repeat (first | apply LN.cons | exact LN.nil)); (focus infer_instance))))) | (apply CA.draw; (focus rfl); (focus kernel_rfl); (focus kernel_rfl); (focus repeat' (first | apply ON.one | exact ON.done | exact ON.none | apply ON.alt)); (focus rfl)) | (apply Ov.n; (focus first | omega | (simp <;> omega))) | fail | (apply Cl.p (hva); (focus repeat' (first | exact Lend.nil | apply Lend.keep | fail))))
    rw [← hsu]
    exact PA.lp (i + 1, _) ⟨by (repeat (first | exact trivial | refine ⟨rfl, ?_⟩)), by (repeat (first | exact Subl.nil | refine Subl.cons (by (repeat (first | exact Take.here | apply Take.there))) ?_))⟩ ⟨hin, by simp only; omega⟩
  · have hie : i = (mrgF m).length := by omega
    subst hie
    rw [List.take_length, List.take_of_length_le (l := l) (by omega)]
    repeat' (first | refine Sp.h ?_ | refine Lk.r rfl ?_ | refine Rf.mk rfl ?_ | (apply Bd.f; (focus (first | assumption | omega | exact Bool.false_ne_true))) | (apply Nm.r; (focus repeat (first | apply LN.cons | exact LN.nil))) | fail)
    exact ⟨_, _, .tup (.same (.same (.nil (by (repeat (first | exact Subl.nil | refine Subl.cons (by (repeat (first | exact Take.here | apply Take.there))) ?_)))))), _, rfl, rfl⟩
theorem initial_p (lo hi : Int) : CallP Tryz.prog 47 [.agg [it lo, it hi]] (it (min (max 0 lo) hi)) := by
  refine CallA.of pg ord47 Tryz.func47 rfl Tryz.ntmps47 Tryz.results47 rfl fun h0 G0 O0 => ?_
  repeat' (first | refine Sp.h ?_ | refine Lk.r rfl ?_ | refine Rf.mk rfl ?_ | (refine All.mk ?_; intro _) | (apply TkB.r; (focus (repeat (first | exact Take.here | apply Take.there)))) | (apply Nm.r; (focus repeat (first | apply LN.cons | exact LN.nil))) | fail)
  exact Fin.p rfl rfl
/-- What the reference calls 'in'. -/
def inB (t : TblS) (g : MgS) : Prop := (t.kind = 2 ∨ t.kind = 3) ∧ setB t g = true
set_option maxHeartbeats 4000000 in
theorem values34_p (m : ModS) (l : List MgS) (hm : LayOK m.sorts m.tables) (hv : ValL (mrgF m) l) (hl : (mrgF m).length ≤ 1000) :
    CallP Tryz.prog 15 [mdl m, mgs l] (.tup [clks (valsF (mrgF m) l), it 0]) := by
  refine CallA.fzt (T := 22) (by rw [valsF_len]; omega) ?_
  have hva := validR34_p m l hm
  have hce := merged32_p m hm
  have hlen := hv.1
  refine CallA.of pg ord15 Tryz.func15 rfl Tryz.ntmps15 Tryz.results15 rfl fun h0 G0 O0 => ?_
  repeat' (first | refine Sp.h ?_ | refine Lk.r rfl ?_ | refine Rf.mk rfl ?_ | (apply Bd.t; (focus (first | assumption | omega | rfl))) | (refine All.mk ?_; intro _) | (apply TkB.r; (focus (repeat (first | exact Take.here | apply Take.there)))) | refine Ch.l ⟨rfl, rfl⟩ ?_ | (apply Fk.r; (focus (repeat (first | exact FillA.nil | (apply FillA.agg; (focus rfl); (focus rfl); (focus (repeat (first | exact SetAs.z | (apply SetAs.c; (focus (repeat (first | assumption | exact SetA.z | apply SetA.s)))))))) | (apply FillA.one; (focus rfl); (focus infer_instance); (focus (repeat (first | assumption | exact SetA.z | apply SetA.s)))))))) | refine Rf.mk ⟨rfl, rfl, rfl⟩ ?_ | fail | (apply Cl.p (hva); (focus repeat' (first | exact Lend.nil | apply Lend.keep | fail))) | (apply Cl.p (hce); (focus repeat' (first | exact Lend.nil | apply Lend.keep | fail))))
  rename_i v
  apply CA.retype (m := ([] : List (List Int))) (g := clkC)
  focus (repeat (first | exact Take.here | apply Take.there))
  focus rfl
  refine CA.loop (fun x : Nat × Value => ⟨[(1, mgs l), (6, tbls (mrgF m)), (7, .ow x.2), (8, it x.1)], [arrR x.2 22 1 (valsF ((mrgF m).take x.1) (l.take x.1)) clkC]⟩) (fun x => x.1 ≤ (mrgF m).length) (fun x => (mrgF m).length - x.1) (0, v) ⟨by (repeat (first | exact trivial | refine ⟨rfl, ?_⟩)), by (repeat (first | exact Subl.nil | refine Subl.cons (by (repeat (first | exact Take.here | apply Take.there))) ?_))⟩ (Nat.zero_le _) ?_
  rintro ⟨i, w⟩ hi
  simp only at hi
  simp only
  by_cases hin : i < (mrgF m).length
  · obtain ⟨t, ht⟩ := get_of hin
    obtain ⟨g, hg⟩ := get_of (l := l) (i := i) (by omega)
    have hsu := valsF_succ ht hg
    have hml := valL_len hv ht hg
    have hln : (valsF ((mrgF m).take i) (l.take i)).length ≤ 1000 := by rw [valsF_len]; simp; omega
    (repeat' (first | (show CA _ _ (Code.region 9 _ _) _ _; apply Stopped.out) | refine Sp.h ?_ | refine Lk.r rfl ?_ | refine Rf.mk rfl ?_ | (apply Bd.t; (focus (first | assumption | omega | rfl))) | (refine Im.mk ?_; intro _) | (refine All.mk ?_; intro _) | (apply TkB.r; (focus (repeat (first | exact Take.here | apply Take.there)))) | (apply Ix.q; (focus exact rfl); (focus assumption)) | refine Ch.l ⟨rfl, rfl⟩ ?_ | (apply SetAsk.r; (focus (repeat (first | exact SetAs.z | (apply SetAs.c; (focus (repeat (first | assumption | exact SetA.z | apply SetA.s)))))))) | (apply Nm.r; (focus repeat (first | apply LN.cons | exact LN.nil))) | fail)); any_goals apply Stopped.mk
    rename_i b9
    refine CA.cut (fun b : Bool => ⟨[(1, mgs l), (6, tbls (mrgF m)), (7, .ow w), (8, it i), (9, pm b9), (10, bl b)], [arrR w 22 1 (valsF ((mrgF m).take i) (l.take i)) clkC, blkR b9 44 (mgC g)]⟩) (fun b => b = true ↔ inB t g) ?_ ?_
    · obtain ⟨put, drop, k⟩ := g
      by_cases k2 : t.kind = 2
      · have hin : ∀ b : Bool, (b = true ↔ setB t ⟨put, drop, k⟩ = true) → (b = true ↔ inB t ⟨put, drop, k⟩) := fun b h => h.trans ⟨fun h => ⟨.inl k2, h⟩, fun h => h.2⟩
        cases put
        all_goals repeat' (first | refine Sp.h ?_ | refine Lk.r rfl ?_ | refine Rf.mk rfl ?_ | (apply Bd.t; (focus (first | assumption | omega | rfl))) | (apply Bd.f; (focus (first | assumption | omega | exact Bool.false_ne_true))) | (refine Bd.mk ?_ ?_ <;> intro _) | (refine Im.mk ?_; intro _) | (apply TkB.r; (focus (repeat (first | exact Take.here | apply Take.there)))) | (apply Ix.q; (focus exact rfl); (focus assumption)) | fail)
        all_goals exact PA.lp _ ⟨by (repeat (first | exact trivial | refine ⟨rfl, ?_⟩)), by (repeat (first | exact Subl.nil | refine Subl.cons (by (repeat (first | exact Take.here | apply Take.there))) ?_))⟩ (hin _ (by simp [setB, k2] at *; try omega))
      by_cases k3 : t.kind = 3
      · have hin : ∀ b : Bool, (b = true ↔ setB t ⟨put, drop, k⟩ = true) → (b = true ↔ inB t ⟨put, drop, k⟩) := fun b h => h.trans ⟨fun h => ⟨.inr k3, h⟩, fun h => h.2⟩
        cases put <;> cases drop
        all_goals repeat' (first | refine Sp.h ?_ | refine Lk.r rfl ?_ | refine Rf.mk rfl ?_ | (apply Bd.t; (focus (first | assumption | omega | rfl))) | (apply Bd.f; (focus (first | assumption | omega | exact Bool.false_ne_true))) | (refine Im.mk ?_; intro _) | (apply TkB.r; (focus (repeat (first | exact Take.here | apply Take.there)))) | (apply Ix.q; (focus exact rfl); (focus assumption)) | fail)
        all_goals exact PA.lp _ ⟨by (repeat (first | exact trivial | refine ⟨rfl, ?_⟩)), by (repeat (first | exact Subl.nil | refine Subl.cons (by (repeat (first | exact Take.here | apply Take.there))) ?_))⟩ (hin _ (by simp [setB, k3] at *; try omega))
      · repeat' (first | refine Sp.h ?_ | refine Lk.r rfl ?_ | refine Rf.mk rfl ?_ | (apply Bd.f; (focus (first | assumption | omega | exact Bool.false_ne_true))) | (apply Ix.q; (focus exact rfl); (focus assumption)) | fail)
        all_goals exact PA.lp _ ⟨by (repeat (first | exact trivial | refine ⟨rfl, ?_⟩)), by (repeat (first | exact Subl.nil | refine Subl.cons (by (repeat (first | exact Take.here | apply Take.there))) ?_))⟩ ⟨fun h => by simp at h, fun h => by rcases h.1 with h | h <;> contradiction⟩
    rintro b hb
    simp only
    repeat' (first | refine Sp.h ?_ | refine Lk.r rfl ?_ | refine Rf.mk rfl ?_ | (refine All.mk ?_; intro _) | (apply Fk.r; (focus (repeat (first | exact FillA.nil | (apply FillA.agg; (focus rfl); (focus rfl); (focus (repeat (first | exact SetAs.z | (apply SetAs.c; (focus (repeat (first | assumption | exact SetA.z | apply SetA.s)))))))) | (apply FillA.one; (focus rfl); (focus infer_instance); (focus (repeat (first | assumption | exact SetA.z | apply SetA.s)))))))) | refine Rf.mk ⟨rfl, rfl, rfl⟩ ?_ | fail)
    rename_i v11
    apply CA.retype (m := ([] : List Int)) (g := i1)
    focus (repeat (first | exact Take.here | apply Take.there))
    focus rfl
    refine CA.loop (fun x : Nat × Value => ⟨[(1, mgs l), (6, tbls (mrgF m)), (7, .ow w), (8, it i), (9, pm b9), (10, bl b), (11, .ow x.2), (12, it x.1)], [arrR w 22 1 (valsF ((mrgF m).take i) (l.take i)) clkC, blkR b9 44 (mgC g), arrR x.2 3 1 ((g.marks.take x.1).map MkS.val) i1]⟩) (fun x => x.1 ≤ g.marks.length) (fun x => g.marks.length - x.1) (0, v11) ⟨by (repeat (first | exact trivial | refine ⟨rfl, ?_⟩)), by (repeat (first | exact Subl.nil | refine Subl.cons (by (repeat (first | exact Take.here | apply Take.there))) ?_))⟩ (Nat.zero_le _) ?_
    rintro ⟨j, u⟩ hj
    simp only at hj
    simp only
    by_cases hjn : j < g.marks.length
    · obtain ⟨x, hx⟩ := get_of hjn
      have hs2 : (g.marks.take (j + 1)).map MkS.val = (g.marks.take j).map MkS.val ++ [x.val] := by rw [List.take_add_one, hx]; simp
      repeat' (first | refine Sp.h ?_ | refine Lk.r rfl ?_ | refine Rf.mk rfl ?_ | (apply Bd.t; (focus (first | assumption | omega | rfl))) | (apply Om.mk; (focus first | omega | (simp <;> omega))) | (refine Im.mk ?_; intro _) | (refine All.mk ?_; intro _) | (apply TkA.r; (focus (repeat (first | exact Take.here | apply Take.there)))) | (apply TkB.r; (focus (repeat (first | exact Take.here | apply Take.there)))) | (apply Ix.q; (focus exact rfl); (focus assumption)) | refine Ce.r ?_ | (apply Fk.r; (focus (repeat (first | exact FillA.nil | (apply FillA.agg; (focus rfl); (focus rfl); (focus (repeat (first | exact SetAs.z | (apply SetAs.c; (focus (repeat (first | assumption | exact SetA.z | apply SetA.s)))))))) | (apply FillA.one; (focus rfl); (focus infer_instance); (focus (repeat (first | assumption | exact SetA.z | apply SetA.s)))))))) | refine Rf.mk ⟨rfl, rfl⟩ ?_ | refine Rf.mk ⟨rfl, rfl, rfl⟩ ?_ | (apply Mp.lit; (focus repeat (first | exact MpL.nil | (apply MpL.cons; (focus rfl)) | (apply MpL.inv; (focus repeat (first | apply LN.cons | exact LN.nil)); (focus infer_instance))))) | (apply Ov.n; (focus first | omega | (simp <;> omega))) | fail)
      rw [← hs2]
      exact PA.lp (j + 1, _) ⟨by (repeat (first | exact trivial | refine ⟨rfl, ?_⟩)), by (repeat (first | exact Subl.nil | refine Subl.cons (by (repeat (first | exact Take.here | apply Take.there))) ?_))⟩ ⟨hjn, by simp only; omega⟩
    have hje : j = g.marks.length := by omega
    subst hje
    rw [List.take_length]
    have hso := sorted_p (g.marks.map MkS.val) (by simp; omega)
    cases b
    · have hb : ¬ inB t g := fun h => by have := hb.2 h; cases this
      by_cases hs : isSetK t.kind
      · have hv : valK t g = [0] := by
          have hs' : t.kind = 2 ∨ t.kind = 3 := hs
          rw [valK, if_pos hs', setV, if_neg (fun h => hb ⟨hs', h⟩)]
        (repeat' (first | (show CA _ _ (Code.region 19 _ _) _ _; apply Stopped.out) | refine Sp.h ?_ | refine Lk.r rfl ?_ | refine Rf.mk rfl ?_ | (apply Bd.t; (focus (first | assumption | omega | rfl))) | (apply Bd.f; (focus (first | assumption | omega | exact Bool.false_ne_true))) | (refine Im.mk ?_; intro _) | (apply TkB.r; (focus (repeat (first | exact Take.here | apply Take.there)))) | (apply Ix.q; (focus exact rfl); (focus assumption)) | fail | (apply Cl.p (isSet34_p _); (focus repeat' (first | exact Lend.nil | apply Lend.keep | fail))))); any_goals apply Stopped.mk
        (repeat' (first | (show OA _ _ _ (List.cons ⟨_, Op.buildSlice 63 _ _, _, _, _, _⟩ _) _ _; apply Stopped.out) | refine Sp.h ?_ | refine Lk.r rfl ?_ | refine Rf.mk rfl ?_ | (refine All.mk ?_; intro _) | (apply Fk.r; (focus (repeat (first | exact FillA.nil | (apply FillA.agg; (focus rfl); (focus rfl); (focus (repeat (first | exact SetAs.z | (apply SetAs.c; (focus (repeat (first | assumption | exact SetA.z | apply SetA.s)))))))) | (apply FillA.one; (focus rfl); (focus infer_instance); (focus (repeat (first | assumption | exact SetA.z | apply SetA.s)))))))) | refine Rf.mk ⟨rfl, rfl, rfl⟩ ?_ | fail)); any_goals apply Stopped.mk
        apply OA.retype (m := ([0] : List Int)) (g := i1)
        focus exact Take.here
        focus rfl
        apply OA.freeze 105
        focus rfl
        focus (repeat (first | exact Take.here | apply Take.there))
        focus exact Nat.le_of_ble_eq_true rfl
        repeat' (first | refine Sp.h ?_ | refine Lk.r rfl ?_ | refine Rf.mk rfl ?_ | (apply Om.mk; (focus first | omega | (simp <;> omega))) | (refine All.mk ?_; intro _) | (apply TkA.r; (focus (repeat (first | exact Take.here | apply Take.there)))) | refine Ce.r ?_ | (apply Fk.r; (focus (repeat (first | exact FillA.nil | (apply FillA.agg; (focus rfl); (focus rfl); (focus (repeat (first | exact SetAs.z | (apply SetAs.c; (focus (repeat (first | assumption | exact SetA.z | apply SetA.s)))))))) | (apply FillA.one; (focus rfl); (focus infer_instance); (focus (repeat (first | assumption | exact SetA.z | apply SetA.s)))))))) | refine Rf.mk ⟨rfl, rfl⟩ ?_ | refine Rf.mk ⟨rfl, rfl, rfl⟩ ?_ | (apply Mp.lit; (focus repeat (first | exact MpL.nil | (apply MpL.cons; (focus rfl)) | (apply MpL.inv; (focus repeat (first | apply LN.cons | exact LN.nil)); (focus infer_instance))))) | (apply Ov.n; (focus first | omega | (simp <;> omega))) | fail)
        rw [← hv, ← hsu]
        exact PA.lp (i + 1, _) ⟨by (repeat (first | exact trivial | refine ⟨rfl, ?_⟩)), by (repeat (first | exact Subl.nil | refine Subl.cons (by (repeat (first | exact Take.here | apply Take.there))) ?_))⟩ ⟨hin, by simp only; omega⟩
      · have hs' : ¬ (t.kind = 2 ∨ t.kind = 3) := hs
        by_cases h0 : g.marks.length = 0
        · have hv : valK t g = [min (max 0 t.lo) t.hi] := by rw [valK, if_neg hs', if_pos h0]; rfl
          have h0' : (g.marks.map MkS.val).length = 0 := by simpa using h0
          (repeat' (first | (show CA _ _ (Code.region 21 _ _) _ _; apply Stopped.out) | refine Sp.h ?_ | refine Lk.r rfl ?_ | refine Rf.mk rfl ?_ | (apply Bd.t; (focus (first | assumption | omega | rfl))) | (apply Bd.f; (focus (first | assumption | omega | exact Bool.false_ne_true))) | (refine Im.mk ?_; intro _) | (apply TkA.r; (focus (repeat (first | exact Take.here | apply Take.there)))) | (apply TkB.r; (focus (repeat (first | exact Take.here | apply Take.there)))) | (apply Ix.q; (focus exact rfl); (focus assumption)) | fail | (apply Cl.p (isSet34_p _); (focus repeat' (first | exact Lend.nil | apply Lend.keep | fail))))); any_goals apply Stopped.mk
          (repeat' (first | (show OA _ _ _ (List.cons ⟨_, Op.buildSlice 63 _ _, _, _, _, _⟩ _) _ _; apply Stopped.out) | refine Sp.h ?_ | refine Lk.r rfl ?_ | refine Rf.mk rfl ?_ | (refine All.mk ?_; intro _) | (apply Ix.q; (focus exact rfl); (focus assumption)) | refine Ch.r ?_ | (apply Fk.r; (focus (repeat (first | exact FillA.nil | (apply FillA.agg; (focus rfl); (focus rfl); (focus (repeat (first | exact SetAs.z | (apply SetAs.c; (focus (repeat (first | assumption | exact SetA.z | apply SetA.s)))))))) | (apply FillA.one; (focus rfl); (focus infer_instance); (focus (repeat (first | assumption | exact SetA.z | apply SetA.s)))))))) | refine Rf.mk ⟨rfl, rfl, rfl⟩ ?_ | fail | (apply Cl.p (initial_p _ _); (focus repeat' (first | exact Lend.nil | apply Lend.keep | fail))))); any_goals apply Stopped.mk
          apply OA.retype (m := ([min (max 0 t.lo) t.hi] : List Int)) (g := i1)
          focus exact Take.here
          focus rfl
          apply OA.freeze 119
          focus rfl
          focus (repeat (first | exact Take.here | apply Take.there))
          focus exact Nat.le_of_ble_eq_true rfl
          repeat' (first | refine Sp.h ?_ | refine Lk.r rfl ?_ | refine Rf.mk rfl ?_ | (apply Om.mk; (focus first | omega | (simp <;> omega))) | (refine All.mk ?_; intro _) | (apply TkA.r; (focus (repeat (first | exact Take.here | apply Take.there)))) | refine Ce.r ?_ | (apply Fk.r; (focus (repeat (first | exact FillA.nil | (apply FillA.agg; (focus rfl); (focus rfl); (focus (repeat (first | exact SetAs.z | (apply SetAs.c; (focus (repeat (first | assumption | exact SetA.z | apply SetA.s)))))))) | (apply FillA.one; (focus rfl); (focus infer_instance); (focus (repeat (first | assumption | exact SetA.z | apply SetA.s)))))))) | refine Rf.mk ⟨rfl, rfl⟩ ?_ | refine Rf.mk ⟨rfl, rfl, rfl⟩ ?_ | (apply Mp.lit; (focus repeat (first | exact MpL.nil | (apply MpL.cons; (focus rfl)) | (apply MpL.inv; (focus repeat (first | apply LN.cons | exact LN.nil)); (focus infer_instance))))) | (apply Ov.n; (focus first | omega | (simp <;> omega))) | fail)
          rw [← hv, ← hsu]
          exact PA.lp (i + 1, _) ⟨by (repeat (first | exact trivial | refine ⟨rfl, ?_⟩)), by (repeat (first | exact Subl.nil | refine Subl.cons (by (repeat (first | exact Take.here | apply Take.there))) ?_))⟩ ⟨hin, by simp only; omega⟩
        · have hv : valK t g = srtD (g.marks.map MkS.val) := by rw [valK, if_neg hs', if_neg h0]
          have h0' : (g.marks.map MkS.val).length ≠ 0 := by simpa using h0
          (repeat' (first | (show CA _ _ (Code.region 15 _ _) _ _; apply Stopped.out) | refine Sp.h ?_ | refine Lk.r rfl ?_ | refine Rf.mk rfl ?_ | (apply Bd.f; (focus (first | assumption | omega | exact Bool.false_ne_true))) | (refine Im.mk ?_; intro _) | (apply TkA.r; (focus (repeat (first | exact Take.here | apply Take.there)))) | (apply TkB.r; (focus (repeat (first | exact Take.here | apply Take.there)))) | (apply Ix.q; (focus exact rfl); (focus assumption)) | fail | (apply Cl.p (isSet34_p _); (focus repeat' (first | exact Lend.nil | apply Lend.keep | fail))))); any_goals apply Stopped.mk
          apply CA.freeze 11
          focus rfl
          focus (repeat (first | exact Take.here | apply Take.there))
          focus (simp; omega)
          repeat' (first | refine Sp.h ?_ | refine Lk.r rfl ?_ | refine Rf.mk rfl ?_ | (apply Om.mk; (focus first | omega | (simp <;> omega))) | (refine All.mk ?_; intro _) | (apply TkA.r; (focus (repeat (first | exact Take.here | apply Take.there)))) | refine Ce.r ?_ | (apply Fk.r; (focus (repeat (first | exact FillA.nil | (apply FillA.agg; (focus rfl); (focus rfl); (focus (repeat (first | exact SetAs.z | (apply SetAs.c; (focus (repeat (first | assumption | exact SetA.z | apply SetA.s)))))))) | (apply FillA.one; (focus rfl); (focus infer_instance); (focus (repeat (first | assumption | exact SetA.z | apply SetA.s)))))))) | refine Rf.mk ⟨rfl, rfl⟩ ?_ | refine Rf.mk ⟨rfl, rfl, rfl⟩ ?_ | (apply Mp.lit; (focus repeat (first | exact MpL.nil | (apply MpL.cons; (focus rfl)) | (apply MpL.inv; (focus repeat (first | apply LN.cons | exact LN.nil)); (focus infer_instance))))) | (apply Ov.n; (focus first | omega | (simp <;> omega))) | fail | (apply Cl.p (hso); (focus repeat' (first | exact Lend.nil | apply Lend.keep | fail))))
          rw [← hv, ← hsu]
          exact PA.lp (i + 1, _) ⟨by (repeat (first | exact trivial | refine ⟨rfl, ?_⟩)), by (repeat (first | exact Subl.nil | refine Subl.cons (by (repeat (first | exact Take.here | apply Take.there))) ?_))⟩ ⟨hin, by simp only; omega⟩
    · have hb : inB t g := hb.1 rfl
      have hv : valK t g = [1] := by rw [valK, if_pos hb.1, setV, if_pos hb.2]
      (repeat' (first | (show CA _ _ (Code.region 17 _ _) _ _; apply Stopped.out) | refine Sp.h ?_ | refine Lk.r rfl ?_ | refine Rf.mk rfl ?_ | (apply Bd.f; (focus (first | assumption | omega | exact Bool.false_ne_true))) | (refine Im.mk ?_; intro _) | (apply TkB.r; (focus (repeat (first | exact Take.here | apply Take.there)))) | fail)); any_goals apply Stopped.mk
      (repeat' (first | (show OA _ _ _ (List.cons ⟨_, Op.buildSlice 63 _ _, _, _, _, _⟩ _) _ _; apply Stopped.out) | refine Sp.h ?_ | refine Lk.r rfl ?_ | refine Rf.mk rfl ?_ | (refine All.mk ?_; intro _) | (apply Fk.r; (focus (repeat (first | exact FillA.nil | (apply FillA.agg; (focus rfl); (focus rfl); (focus (repeat (first | exact SetAs.z | (apply SetAs.c; (focus (repeat (first | assumption | exact SetA.z | apply SetA.s)))))))) | (apply FillA.one; (focus rfl); (focus infer_instance); (focus (repeat (first | assumption | exact SetA.z | apply SetA.s)))))))) | refine Rf.mk ⟨rfl, rfl, rfl⟩ ?_ | fail)); any_goals apply Stopped.mk
      apply OA.retype (m := ([1] : List Int)) (g := i1)
      focus exact Take.here
      focus rfl
      apply OA.freeze 94
      focus rfl
      focus (repeat (first | exact Take.here | apply Take.there))
      focus exact Nat.le_of_ble_eq_true rfl
      repeat' (first | refine Sp.h ?_ | refine Lk.r rfl ?_ | refine Rf.mk rfl ?_ | (apply Om.mk; (focus first | omega | (simp <;> omega))) | (refine All.mk ?_; intro _) | (apply TkA.r; (focus (repeat (first | exact Take.here | apply Take.there)))) | refine Ce.r ?_ | (apply Fk.r; (focus (repeat (first | exact FillA.nil | (apply FillA.agg; (focus rfl); (focus rfl); (focus (repeat (first | exact SetAs.z | (apply SetAs.c; (focus (repeat (first | assumption | exact SetA.z | apply SetA.s)))))))) | (apply FillA.one; (focus rfl); (focus infer_instance); (focus (repeat (first | assumption | exact SetA.z | apply SetA.s)))))))) | refine Rf.mk ⟨rfl, rfl⟩ ?_ | refine Rf.mk ⟨rfl, rfl, rfl⟩ ?_ | (apply Mp.lit; (focus repeat (first | exact MpL.nil | (apply MpL.cons; (focus rfl)) | (apply MpL.inv; (focus repeat (first | apply LN.cons | exact LN.nil)); (focus infer_instance))))) | (apply Ov.n; (focus first | omega | (simp <;> omega))) | fail)
      rw [← hv, ← hsu]
      exact PA.lp (i + 1, _) ⟨by (repeat (first | exact trivial | refine ⟨rfl, ?_⟩)), by (repeat (first | exact Subl.nil | refine Subl.cons (by (repeat (first | exact Take.here | apply Take.there))) ?_))⟩ ⟨hin, by simp only; omega⟩
  · have hie : i = (mrgF m).length := by omega
    subst hie
    rw [List.take_length, List.take_of_length_le (l := l) (by omega)]
    repeat' (first | refine Sp.h ?_ | refine Lk.r rfl ?_ | refine Rf.mk rfl ?_ | (apply Bd.f; (focus (first | assumption | omega | exact Bool.false_ne_true))) | (refine Im.mk ?_; intro _) | (apply Nm.r; (focus repeat (first | apply LN.cons | exact LN.nil))) | fail)
    exact ⟨_, _, .tup (.same (.same (.nil (by (repeat (first | exact Subl.nil | refine Subl.cons (by (repeat (first | exact Take.here | apply Take.there))) ?_)))))), _, rfl, rfl⟩
end Go.Proofs.YtpgpdmmobblffaaGreat
namespace Go.Proofs.YtpgpdmmobblffaaGreat
open Go Go.CF
set_option maxRecDepth 20000
noncomputable def setG (c : List Int) (t : TblS) (g : MgS) : MgS :=
  if isReg t.kind ∨ (fgK c g.marks).length = g.marks.length then g
  else if t.kind = 2 then ⟨true, g.drop, fgK c g.marks⟩ else ⟨g.put, true, fgK c g.marks⟩
noncomputable def setF (c : List Int) (ts : List TblS) (l : List MgS) : List MgS := (ts.zip l).map fun p => setG c p.1 p.2
theorem setF_len (c : List Int) (ts : List TblS) (l : List MgS) : (setF c ts l).length = min ts.length l.length := by simp [setF]
theorem setF_at {c : List Int} {ts : List TblS} {l : List MgS} {i : Nat} {t : TblS} {g : MgS} (ht : ts[i]? = some t) (hg : l[i]? = some g) : (setF c ts l)[i]? = some (setG c t g) := by
  rw [setF, List.getElem?_map, (List.getElem?_zip_eq_some (z := (t, g))).2 ⟨ht, hg⟩]; rfl
noncomputable def settleF (m : ModS) (l : List MgS) (c : List Int) : Int × List MgS := @ite _ (ValL (mrgF m) l ∧ ValC c) (Classical.propDecidable _) (0, setF c (mrgF m) l) (1, [])
theorem settleF_ok {m : ModS} {l : List MgS} {c : List Int} (h : ValL (mrgF m) l ∧ ValC c) : settleF m l c = (0, setF c (mrgF m) l) := @if_pos _ (Classical.propDecidable _) h _ _ _
theorem settleF_bad {m : ModS} {l : List MgS} {c : List Int} (h : ¬ (ValL (mrgF m) l ∧ ValC c)) : settleF m l c = (1, []) := @if_neg _ (Classical.propDecidable _) h _ _ _
theorem settle1_p (c : List Int) (x : MkS) : CallP Tryz.prog 50 [mA x, .ad [ints c] 0] (bl (decide (HasC c x.rep x.num))) := by
  refine CallA.of pg ord50 Tryz.func50 rfl Tryz.ntmps50 Tryz.results50 rfl fun h0 G0 O0 => ?_
  repeat' (first | refine Sp.h ?_ | refine Lk.r rfl ?_ | refine Rf.mk rfl ?_ | refine OpK.r rfl ?_ | (refine All.mk ?_; intro _) | (apply TkB.r; (focus (repeat (first | exact Take.here | apply Take.there)))) | refine Ch.l ⟨rfl, rfl⟩ ?_ | (apply Nm.r; (focus repeat (first | apply LN.cons | exact LN.nil))) | (apply CA.draw; (focus rfl); (focus kernel_rfl); (focus kernel_rfl); (focus repeat' (first | apply ON.one | exact ON.done | exact ON.none | apply ON.alt)); (focus rfl)) | fail | (apply Cl.p (dot_p _); (focus repeat' (first | exact Lend.nil | apply Lend.keep | fail))) | (apply Cl.p (hasC_p _ _ _); (focus repeat' (first | exact Lend.nil | apply Lend.keep | fail))))
  exact Fin.p rfl rfl
theorem set_same {α : Type} {D : List α} {i : Nat} {x : α} (hx : D[i]? = some x) : D.set i x = D := by
  apply List.ext_getElem?
  intro j
  have hl := (List.getElem?_eq_some_iff.1 hx).1
  rw [List.getElem?_set]
  split
  · rename_i hj; subst hj; first | rw [if_pos hl, hx] | rw [hx]
  · rfl
set_option maxHeartbeats 4000000 in
theorem settle_a (m : ModS) (l : List MgS) (c : List Int) (hm : MOK m) : CallA Tryz.prog 16 [mdl m, mgs l, ints c] [] (ApK (settleF m l c)) := by
  have hva := validM_p m l hm.lay
  have hvc := validC_p c
  have hce := cells_p m hm.lay
  by_cases hv : ValL (mrgF m) l ∧ ValC c
  rotate_left
  · rw [settleF_bad hv]
    refine CallA.of pg ord16 Tryz.func16 rfl Tryz.ntmps16 Tryz.results16 rfl fun h0 G0 O0 => ?_
    by_cases h1 : ValL (mrgF m) l
    · have h2 : ¬ ValC c := fun h => hv ⟨h1, h⟩
      repeat' (first | refine Sp.h ?_ | refine Lk.r rfl ?_ | refine Rf.mk rfl ?_ | (apply Bd.t; (focus (first | assumption | omega | rfl))) | (apply Bd.f; (focus (first | assumption | omega | exact Bool.false_ne_true))) | (refine All.mk ?_; intro _) | (apply TkB.r; (focus (repeat (first | exact Take.here | apply Take.there)))) | refine Ch.l ⟨rfl, rfl⟩ ?_ | (apply Nm.r; (focus repeat (first | apply LN.cons | exact LN.nil))) | fail | (apply Cl.p (hva); (focus repeat' (first | exact Lend.nil | apply Lend.keep | fail))) | (apply Cl.p (hvc); (focus repeat' (first | exact Lend.nil | apply Lend.keep | fail))))
      exact ⟨_, _, .tup (.same (.same (.nil (by (repeat (first | exact Subl.nil | refine Subl.cons (by (repeat (first | exact Take.here | apply Take.there))) ?_)))))), .inr ⟨by decide, rfl, rfl⟩⟩
    · repeat' (first | refine Sp.h ?_ | refine Lk.r rfl ?_ | refine Rf.mk rfl ?_ | (apply Bd.f; (focus (first | assumption | omega | exact Bool.false_ne_true))) | (refine All.mk ?_; intro _) | (apply TkB.r; (focus (repeat (first | exact Take.here | apply Take.there)))) | refine Ch.l ⟨rfl, rfl⟩ ?_ | (apply Nm.r; (focus repeat (first | apply LN.cons | exact LN.nil))) | fail | (apply Cl.p (hva); (focus repeat' (first | exact Lend.nil | apply Lend.keep | fail))) | (apply Cl.p (hvc); (focus repeat' (first | exact Lend.nil | apply Lend.keep | fail))))
      exact ⟨_, _, .tup (.same (.same (.nil (by (repeat (first | exact Subl.nil | refine Subl.cons (by (repeat (first | exact Take.here | apply Take.there))) ?_)))))), .inr ⟨by decide, rfl, rfl⟩⟩
  rw [settleF_ok hv]
  obtain ⟨h1, h2⟩ := hv
  have hlen := h1.1
  have hl : l.length ≤ 20 := by have := hm.mrg; omega
  have hcl := clone34_a l (by omega) (fun g hgm => by
    obtain ⟨i, hi⟩ := List.getElem?_of_mem hgm
    obtain ⟨t, ht⟩ := get_of (l := mrgF m) (i := i) (by have := (List.getElem?_eq_some_iff.1 hi).1; omega)
    have := valL_len h1 ht hi
    omega)
  refine CallA.of pg ord16 Tryz.func16 rfl Tryz.ntmps16 Tryz.results16 rfl fun h0 G0 O0 => ?_
  (repeat' (first | (show CA _ _ (Code.region 1 _ _) _ _; apply Stopped.out) | refine Sp.h ?_ | refine Lk.r rfl ?_ | refine Rf.mk rfl ?_ | (refine All.mk ?_; intro _) | fail | (apply Cl.p (hva); (focus repeat' (first | fail))))); any_goals apply Stopped.mk
  rename_i b3 b5
  apply CA.freezeB 5
  focus rfl
  focus (repeat (first | exact Take.here | apply Take.there))
  repeat' (first | refine Sp.h ?_ | refine Lk.r rfl ?_ | refine Rf.mk rfl ?_ | (apply Bd.t; (focus (first | assumption | omega | rfl))) | (apply TkB.r; (focus (repeat (first | exact Take.here | apply Take.there)))) | refine Ch.l ⟨rfl, rfl⟩ ?_ | fail | (apply Cl.p (hva); (focus repeat' (first | exact Lend.nil | apply Lend.keep | fail))) | (apply Cl.p (hvc); (focus repeat' (first | exact Lend.nil | apply Lend.keep | fail))))
  (apply Cl.use (hcl); (focus repeat' (first | exact Lend.nil | apply Lend.keep | fail)); (focus (repeat (first | exact Takes.nil | (apply Takes.cons; (focus (repeat (first | exact Take.here | apply Take.there))))))); (focus rfl))
  rintro _ _ ⟨v, L0, rfl, hL, rfl⟩
  repeat' (first | refine Sp.h ?_ | refine Lk.r rfl ?_ | refine Rf.mk rfl ?_ | (refine Im.mk ?_; intro _) | (apply TkB.r; (focus (repeat (first | exact Take.here | apply Take.there)))) | refine Ch.l ⟨rfl, rfl⟩ ?_ | fail | (apply Cl.p (hce); (focus repeat' (first | exact Lend.nil | apply Lend.keep | fail))))
  refine CA.loop (fun x : Nat × List MgE => ⟨[(5, .ad [ints c] 0), (8, .ow v), (25, tbls (mrgF m)), (26, it ((mrgF m).length : Nat)), (27, it x.1)],
      [arrR v 44 3 x.2 mgeC, bunR (x.2.map mgeR)]⟩)
    (fun x => x.1 ≤ l.length ∧ x.2.map MgE.g = (setF c (mrgF m) l).take x.1 ++ l.drop x.1) (fun x => l.length - x.1) (0, L0) ⟨by (repeat (first | exact trivial | refine ⟨rfl, ?_⟩)), by (repeat (first | exact Subl.nil | refine Subl.cons (by (repeat (first | exact Take.here | apply Take.there))) ?_))⟩ ⟨Nat.zero_le _, by simpa using hL⟩ ?_
  rintro ⟨i, D⟩ ⟨hi, hD⟩
  simp only at hi hD
  simp only
  by_cases hin : i < l.length
  · obtain ⟨g, hgi⟩ := get_of hin
    obtain ⟨t, hti⟩ := get_of (l := mrgF m) (i := i) (by omega)
    have hsl : ((setF c (mrgF m) l).take i).length = i := by rw [List.length_take, setF_len]; omega
    have hDi : (D.map MgE.g)[i]? = some g := by
      rw [hD, List.getElem?_append_right (by omega), List.getElem?_drop, hsl]
      simpa using hgi
    obtain ⟨x, hx, hxg⟩ : ∃ x, D[i]? = some x ∧ x.g = g := by
      rw [List.getElem?_map] at hDi
      cases hd : D[i]? with
      | none => rw [hd] at hDi; cases hDi
      | some x => rw [hd] at hDi; exact ⟨x, rfl, by simpa using hDi⟩
    have hDl := (List.getElem?_eq_some_iff.1 hx).1
    have hml : x.marks.length ≤ 1024 := by have := valL_len h1 hti hgi; rw [← hxg] at this; exact this
    have hreg := register_p t
    have hdel := deleteK_a (settle1_p c) rfl x.w x.marks (by omega)
    (repeat' (first | (show CA _ _ (Code.block 1 _) _ _; apply Stopped.out) | refine Sp.h ?_ | refine Lk.r rfl ?_ | refine Rf.mk rfl ?_ | (apply Bd.t; (focus (first | assumption | omega | rfl))) | fail)); any_goals apply Stopped.mk
    apply CA.bunTake (l := D) (g := mgeR) (i := i) (x := x)
    focus (repeat (first | exact Take.here | apply Take.there))
    focus exact hx
    refine CA.cut (fun p : List MgE × MgE => ⟨[(5, .ad [ints c] 0), (8, .ow v), (25, tbls (mrgF m)), (26, it ((mrgF m).length : Nat)), (27, it i)],
        [arrR v 44 3 p.1 mgeC, mgeR p.2, bunR ((D.eraseIdx i).map mgeR)]⟩) (fun p => p.1 = D.set i p.2 ∧ p.2.g = setG c t g) ?_ ?_
    · by_cases hr : isReg t.kind
      · have he : setG c t g = g := if_pos (.inl hr)
        rw [he]
        repeat' (first | refine Sp.h ?_ | refine Lk.r rfl ?_ | refine Rf.mk rfl ?_ | (apply Bd.t; (focus (first | assumption | omega | rfl))) | (refine All.mk ?_; intro _) | (apply TkB.r; (focus (repeat (first | exact Take.here | apply Take.there)))) | (apply Ix.q; (focus exact rfl); (focus assumption)) | refine Ch.l ⟨rfl, rfl⟩ ?_ | (apply SetAsk.r; (focus (repeat (first | exact SetAs.z | (apply SetAs.c; (focus (repeat (first | assumption | exact SetA.z | apply SetA.s)))))))) | (apply Nm.r; (focus repeat (first | apply LN.cons | exact LN.nil))) | fail | (apply Cl.p (hreg); (focus repeat' (first | exact Lend.nil | apply Lend.keep | fail))))
        exact PA.lp (D, x) ⟨by (repeat (first | exact trivial | refine ⟨rfl, ?_⟩)), by (repeat (first | exact Subl.nil | refine Subl.cons (by (repeat (first | exact Take.here | apply Take.there))) ?_))⟩ ⟨(set_same hx).symm, hxg⟩
      · repeat' (first | refine Sp.h ?_ | refine Lk.r rfl ?_ | refine Rf.mk rfl ?_ | (apply Bd.f; (focus (first | assumption | omega | exact Bool.false_ne_true))) | (refine All.mk ?_; intro _) | (apply TkA.r; (focus (repeat (first | exact Take.here | apply Take.there)))) | (apply TkB.r; (focus (repeat (first | exact Take.here | apply Take.there)))) | (apply Ix.q; (focus exact rfl); (focus assumption)) | (apply At.r; (focus assumption)) | refine Ch.l ⟨rfl, rfl⟩ ?_ | (apply SetAsk.r; (focus (repeat (first | exact SetAs.z | (apply SetAs.c; (focus (repeat (first | assumption | exact SetA.z | apply SetA.s)))))))) | (apply Nm.r; (focus repeat (first | apply LN.cons | exact LN.nil))) | fail | (apply Cl.p (hreg); (focus repeat' (first | exact Lend.nil | apply Lend.keep | fail))))
        (apply Cl.use (hdel); (focus repeat' (first | exact Lend.nil | apply Lend.keep | fail)); (focus (repeat (first | exact Takes.nil | (apply Takes.cons; (focus (repeat (first | exact Take.here | apply Take.there))))))); (focus rfl))
        rintro _ _ ⟨w', rfl, rfl⟩
        rename_i b10 _
        have hfe : (x.marks.filter fun y => !decide (HasC c y.rep y.num)) = fgK c g.marks := by rw [← hxg]; rfl
        rw [hfe]
        have inv : Inv mgeC [bl x.put, bl x.drop, .ow w'] ⟨x.put, x.drop, w', fgK c g.marks⟩ := ⟨rfl⟩
        have inv2 : Inv mgeC [bl true, bl x.drop, .ow w'] ⟨true, x.drop, w', fgK c g.marks⟩ := ⟨rfl⟩
        have inv3 : Inv mgeC [bl x.put, bl true, .ow w'] ⟨x.put, true, w', fgK c g.marks⟩ := ⟨rfl⟩
        have hxs : (D.set i ⟨x.put, x.drop, w', fgK c g.marks⟩)[i]? = some ⟨x.put, x.drop, w', fgK c g.marks⟩ := by rw [List.getElem?_set, if_pos rfl, if_pos hDl]
        have hxm : x.marks.length = g.marks.length := by rw [← hxg]; rfl
        by_cases hs : (fgK c g.marks).length = g.marks.length
        · have he : setG c t g = g := if_pos (.inr hs)
          have hg' : fgK c g.marks = g.marks := List.Sublist.eq_of_length List.filter_sublist hs
          repeat' (first | refine Sp.h ?_ | refine Lk.r rfl ?_ | refine Rf.mk rfl ?_ | (apply Bd.t; (focus (first | assumption | omega | rfl))) | (apply TkA.r; (focus (repeat (first | exact Take.here | apply Take.there)))) | (apply At.r; (focus assumption)) | (apply SetAk.r; (focus (repeat (first | assumption | exact SetA.z | apply SetA.s)))) | (apply Up.inv; (focus repeat (first | apply LN.cons | exact LN.nil)); (focus infer_instance)) | fail)
          exact PA.lp (D.set i ⟨x.put, x.drop, w', fgK c g.marks⟩, ⟨x.put, x.drop, w', fgK c g.marks⟩) ⟨by (repeat (first | exact trivial | refine ⟨rfl, ?_⟩)), by (repeat (first | exact Subl.nil | refine Subl.cons (by (repeat (first | exact Take.here | apply Take.there))) ?_))⟩ ⟨rfl, by rw [he, hg', ← hxg]; rfl⟩
        · have hn : ¬ (isReg t.kind ∨ (fgK c g.marks).length = g.marks.length) := fun h => h.elim hr hs
          by_cases k2 : t.kind = 2
          · have he : setG c t g = ⟨true, g.drop, fgK c g.marks⟩ := by rw [setG, if_neg hn, if_pos k2]
            repeat' (first | refine Sp.h ?_ | refine Lk.r rfl ?_ | refine Rf.mk rfl ?_ | (apply Bd.t; (focus (first | assumption | omega | rfl))) | (apply Bd.f; (focus (first | assumption | omega | exact Bool.false_ne_true))) | (apply TkA.r; (focus (repeat (first | exact Take.here | apply Take.there)))) | (apply TkB.r; (focus (repeat (first | exact Take.here | apply Take.there)))) | (apply At.r; (focus assumption)) | (apply SetAk.r; (focus (repeat (first | assumption | exact SetA.z | apply SetA.s)))) | (apply Up.inv; (focus repeat (first | apply LN.cons | exact LN.nil)); (focus infer_instance)) | fail)
            rw [List.set_set]
            exact PA.lp (D.set i ⟨true, x.drop, w', fgK c g.marks⟩, ⟨true, x.drop, w', fgK c g.marks⟩) ⟨by (repeat (first | exact trivial | refine ⟨rfl, ?_⟩)), by (repeat (first | exact Subl.nil | refine Subl.cons (by (repeat (first | exact Take.here | apply Take.there))) ?_))⟩ ⟨rfl, by rw [he, ← hxg]; rfl⟩
          · have he : setG c t g = ⟨g.put, true, fgK c g.marks⟩ := by rw [setG, if_neg hn, if_neg k2]
            repeat' (first | refine Sp.h ?_ | refine Lk.r rfl ?_ | refine Rf.mk rfl ?_ | (apply Bd.f; (focus (first | assumption | omega | exact Bool.false_ne_true))) | (apply TkA.r; (focus (repeat (first | exact Take.here | apply Take.there)))) | (apply TkB.r; (focus (repeat (first | exact Take.here | apply Take.there)))) | (apply At.r; (focus assumption)) | (apply SetAk.r; (focus (repeat (first | assumption | exact SetA.z | apply SetA.s)))) | (apply Up.inv; (focus repeat (first | apply LN.cons | exact LN.nil)); (focus infer_instance)) | fail)
            rw [List.set_set]
            exact PA.lp (D.set i ⟨x.put, true, w', fgK c g.marks⟩, ⟨x.put, true, w', fgK c g.marks⟩) ⟨by (repeat (first | exact trivial | refine ⟨rfl, ?_⟩)), by (repeat (first | exact Subl.nil | refine Subl.cons (by (repeat (first | exact Take.here | apply Take.there))) ?_))⟩ ⟨rfl, by rw [he, ← hxg]; rfl⟩
    · rintro ⟨D', x'⟩ ⟨hD', hx'⟩
      simp only at hD' hx'
      subst hD'
      simp only
      have hdr : l.drop i = g :: l.drop (i + 1) := by
        have h9 := List.drop_eq_getElem_cons hin
        rw [(List.getElem?_eq_some_iff.1 hgi).2] at h9
        exact h9
      have hA : (D.set i x').map MgE.g = (setF c (mrgF m) l).take (i + 1) ++ l.drop (i + 1) := by
        rw [List.map_set, hD, hx', hdr, List.set_append, if_neg (by omega), hsl, Nat.sub_self, List.set_cons_zero, List.take_add_one, setF_at hti hgi]
        simp
      (repeat' (first | (show CA _ _ (Code.region 15 _ _) _ _; apply Stopped.out) | refine Sp.h ?_ | fail)); any_goals apply Stopped.mk
      apply CA.bunPut (l := D) (g := mgeR) (i := i) (x := x')
      focus (repeat (first | exact Take.here | apply Take.there))
      focus (repeat (first | exact Take.here | apply Take.there))
      focus exact hDl
      repeat' (first | refine Sp.h ?_ | refine Lk.r rfl ?_ | refine Rf.mk rfl ?_ | (apply Ov.n; (focus first | omega | (simp <;> omega))) | fail)
      exact PA.lp (i + 1, D.set i x') ⟨by (repeat (first | exact trivial | refine ⟨rfl, ?_⟩)), by (repeat (first | exact Subl.nil | refine Subl.cons (by (repeat (first | exact Take.here | apply Take.there))) ?_))⟩ ⟨⟨hin, hA⟩, by simp only; omega⟩
  · have hie : i = l.length := by omega
    subst hie
    rw [List.drop_length, List.append_nil, List.take_of_length_le (by rw [setF_len]; omega)] at hD
    repeat' (first | refine Sp.h ?_ | refine Lk.r rfl ?_ | refine Rf.mk rfl ?_ | (apply Bd.f; (focus (first | assumption | omega | exact Bool.false_ne_true))) | (apply Nm.r; (focus repeat (first | apply LN.cons | exact LN.nil))) | fail)
    exact ⟨_, _, .tup (.same (.same (.nil (by (repeat (first | exact Subl.nil | refine Subl.cons (by (repeat (first | exact Take.here | apply Take.there))) ?_)))))), .inl ⟨v, D, rfl, rfl, rfl, hD⟩⟩
end Go.Proofs.YtpgpdmmobblffaaGreat
namespace Go.Proofs.YtpgpdmmobblffaaGreat
open Go Go.CF
set_option maxRecDepth 20000
theorem fgK_len (c : List Int) (l : List MkS) : (fgK c l).length ≤ l.length := List.length_filter_le _ _
theorem fgK_succ {c : List Int} {l : List MkS} {i : Nat} {x : MkS} (hx : l[i]? = some x) : fgK c (l.take (i + 1)) = fgK c (l.take i) ++ if HasC c x.rep x.num then [] else [x] := by
  rw [List.take_add_one, hx, fgK, List.filter_append]
  by_cases h : HasC c x.rep x.num
  · rw [if_pos h]; simp [fgK, h]
  · rw [if_neg h]; simp [fgK, h]
theorem unseen_p (l : List MkS) (c : List Int) (hl : l.length ≤ 100000) : CallP Tryz.prog 53 [mks l, ints c] (mks (fgK c l)) := by
  have hln := fgK_len c l
  refine CallA.fz (T := 47) (by omega) ?_
  refine CallA.of pg ord53 Tryz.func53 rfl Tryz.ntmps53 Tryz.results53 rfl fun h0 G0 O0 => ?_
  repeat' (first | refine Sp.h ?_ | refine Lk.r rfl ?_ | refine Rf.mk rfl ?_ | (refine All.mk ?_; intro _) | (apply Fk.r; (focus (repeat (first | exact FillA.nil | (apply FillA.agg; (focus rfl); (focus rfl); (focus (repeat (first | exact SetAs.z | (apply SetAs.c; (focus (repeat (first | assumption | exact SetA.z | apply SetA.s)))))))) | (apply FillA.one; (focus rfl); (focus infer_instance); (focus (repeat (first | assumption | exact SetA.z | apply SetA.s)))))))) | refine Rf.mk ⟨rfl, rfl, rfl⟩ ?_ | fail)
  rename_i v
  apply CA.retype (m := ([] : List MkS)) (g := mkC)
  focus (repeat (first | exact Take.here | apply Take.there))
  focus rfl
  refine CA.loop (fun x : Nat × Value => ⟨[(0, mks l), (1, ints c), (5, .ow x.2), (6, it x.1)], [arrR x.2 47 4 (fgK c (l.take x.1)) mkC]⟩) (fun x => x.1 ≤ l.length) (fun x => l.length - x.1) (0, v) ⟨by (repeat (first | exact trivial | refine ⟨rfl, ?_⟩)), by (repeat (first | exact Subl.nil | refine Subl.cons (by (repeat (first | exact Take.here | apply Take.there))) ?_))⟩ (Nat.zero_le _) ?_
  rintro ⟨i, w⟩ hi
  simp only at hi
  simp only
  by_cases hin : i < l.length
  · obtain ⟨x, hx⟩ := get_of hin
    have hsu := fgK_succ (c := c) hx
    have hll := fgK_len c (l.take i)
    rw [List.length_take] at hll
    by_cases hh : HasC c x.rep x.num
    · rw [if_pos hh, List.append_nil] at hsu
      repeat' (first | refine Sp.h ?_ | refine Lk.r rfl ?_ | refine Rf.mk rfl ?_ | (apply Bd.t; (focus (first | assumption | omega | rfl))) | refine OpK.r rfl ?_ | (refine Im.mk ?_; intro _) | (apply Ix.q; (focus exact rfl); (focus assumption)) | (apply Fk.r; (focus (repeat (first | exact FillA.nil | (apply FillA.agg; (focus rfl); (focus rfl); (focus (repeat (first | exact SetAs.z | (apply SetAs.c; (focus (repeat (first | assumption | exact SetA.z | apply SetA.s)))))))) | (apply FillA.one; (focus rfl); (focus infer_instance); (focus (repeat (first | assumption | exact SetA.z | apply SetA.s)))))))) | (apply CA.draw; (focus rfl); (focus kernel_rfl); (focus kernel_rfl); (focus repeat' (first | apply ON.one | exact ON.done | exact ON.none | apply ON.alt)); (focus rfl)) | (apply Ov.n; (focus first | omega | (simp <;> omega))) | fail | (apply Cl.p (hasR_p _ _ _); (focus repeat' (first | exact Lend.nil | apply Lend.keep | fail))))
      all_goals rw [← hsu]
      all_goals exact PA.lp (i + 1, w) ⟨by (repeat (first | exact trivial | refine ⟨rfl, ?_⟩)), by (repeat (first | exact Subl.nil | refine Subl.cons (by (repeat (first | exact Take.here | apply Take.there))) ?_))⟩ ⟨hin, by simp only; omega⟩
    · rw [if_neg hh] at hsu
      repeat' (first | refine Sp.h ?_ | refine Lk.r rfl ?_ | refine Rf.mk rfl ?_ | (apply Bd.t; (focus (first | assumption | omega | rfl))) | (apply Bd.f; (focus (first | assumption | omega | exact Bool.false_ne_true))) | refine OpK.r rfl ?_ | (apply Om.mk; (focus first | omega | (simp <;> omega))) | (refine Im.mk ?_; intro _) | (refine All.mk ?_; intro _) | (apply TkA.r; (focus (repeat (first | exact Take.here | apply Take.there)))) | (apply Ix.q; (focus exact rfl); (focus assumption)) | refine Ce.r ?_ | refine Ch.l ⟨rfl, rfl⟩ ?_ | (apply Fk.r; (focus (repeat (first | exact FillA.nil | (apply FillA.agg; (focus rfl); (focus rfl); (focus (repeat (first | exact SetAs.z | (apply SetAs.c; (focus (repeat (first | assumption | exact SetA.z | apply SetA.s)))))))) | (apply FillA.one; (focus rfl); (focus infer_instance); (focus (repeat (first | assumption | exact SetA.z | apply SetA.s)))))))) | refine Rf.mk ⟨rfl, rfl⟩ ?_ | refine Rf.mk ⟨rfl, rfl, rfl⟩ ?_ | (apply Mp.lit; (focus repeat (first | exact MpL.nil | (apply MpL.cons; (focus rfl)) | (apply MpL.inv; (focus repeat (first | apply LN.cons | exact LN.nil)); (focus infer_instance))))) | (apply CA.draw; (focus rfl); (focus kernel_rfl); (focus kernel_rfl); (focus repeat' (first | apply ON.one | exact ON.done | exact ON.none | apply ON.alt)); (focus rfl)) | (apply Ov.n; (focus first | omega | (simp <;> omega))) | fail | (apply Cl.p (hasR_p _ _ _); (focus repeat' (first | exact Lend.nil | apply Lend.keep | fail))))
      all_goals rw [← hsu]
      all_goals exact PA.lp (i + 1, _) ⟨by (repeat (first | exact trivial | refine ⟨rfl, ?_⟩)), by (repeat (first | exact Subl.nil | refine Subl.cons (by (repeat (first | exact Take.here | apply Take.there))) ?_))⟩ ⟨hin, by simp only; omega⟩
  · have hie : i = l.length := by omega
    subst hie
    rw [List.take_length]
    repeat' (first | refine Sp.h ?_ | refine Lk.r rfl ?_ | refine Rf.mk rfl ?_ | (apply Bd.f; (focus (first | assumption | omega | exact Bool.false_ne_true))) | (refine Im.mk ?_; intro _) | (apply Nm.r; (focus repeat (first | apply LN.cons | exact LN.nil))) | fail)
    exact ⟨_, _, .one (.same (.nil (by (repeat (first | exact Subl.nil | refine Subl.cons (by (repeat (first | exact Take.here | apply Take.there))) ?_))))), _, rfl, rfl⟩
/-- A list and an error code, asx the caller sees them. -/
abbrev resG (q : Int × List MgS) : AV := .tup [mgs q.2, it q.1]
theorem settle_p (m : ModS) (l : List MgS) (c : List Int) (hm : MOK m) : CallP Tryz.prog 16 [mdl m, mgs l, ints c] (resG (settleF m l c)) := by
  refine CallA.fx (settle_a m l c hm) ?_
  rintro _ _ (⟨v, L, h1, rfl, rfl, h2⟩ | ⟨h1, rfl, rfl⟩)
  · by_cases hv : ValL (mrgF m) l ∧ ValC c
    · have hq := settleF_ok hv
      rw [hq] at h2 ⊢
      simp only at h2 ⊢
      have hlen := hv.1.1
      have hLl : L.length = l.length := by have := congrArg List.length h2; rw [List.length_map, setF_len] at this; omega
      have h20 := hm.mrg
      rw [← h2]
      refine .tup (.sl .here (by omega) (.unb .here ?_) (.le (ALe.refl _) .nil)) .nil
      refine FX.rows (o := []) (r := mgeR) (f := mgeC) (g := mgC) (φ := MgE.g) L fun x hx o' => ?_
      have hml : x.marks.length ≤ 1024 := by
        obtain ⟨i, hi⟩ := List.getElem?_of_mem hx
        have h9 : (L.map MgE.g)[i]? = some x.g := by rw [List.getElem?_map, hi]; rfl
        rw [h2] at h9
        have hil := (List.getElem?_eq_some_iff.1 hi).1
        obtain ⟨g, hg⟩ := get_of (l := l) (i := i) (by omega)
        obtain ⟨t, ht⟩ := get_of (l := mrgF m) (i := i) (by omega)
        rw [setF_at ht hg] at h9
        have hle := valL_len hv.1 ht hg
        have hf := fgK_len c g.marks
        have h10 := Option.some.inj h9
        have : x.marks = (setG c t g).marks := by rw [h10]; rfl
        rw [this, setG]
        split
        · exact hle
        · split <;> (simp only; omega)
      exact .le (ALe.refl _) (.le (ALe.refl _) (.sl .here (by omega) (FX.refl _) .nil))
    · rw [settleF_bad hv] at h1
      cases h1
  · by_cases hv : ValL (mrgF m) l ∧ ValC c
    · rw [settleF_ok hv] at h1; exact absurd rfl h1
    · rw [settleF_bad hv]
      exact .tup (.le ALe.nil (.le (ALe.refl _) .nil)) .nil
set_option maxHeartbeats 4000000 in
theorem settle34_o (m : ModS) (l : List MgS) (c : List Int) (hm : MOK m) (hv : ValL (mrgF m) l ∧ ValC c) : CallA Tryz.prog 17 [mdl m, mgs l, ints c] [] fun r o => ∃ v, r = .tup [.ow v, it 0] ∧ o = [arrR v 44 3 (setF c (mrgF m) l) mgC] := by
  have hva := validR34_p m l hm.lay
  have hvc := validR_p c
  have hce := merged32_p m hm.lay
  obtain ⟨h1, h2⟩ := hv
  have hlen := h1.1
  have hl : l.length ≤ 20 := by have := hm.mrg; omega
  refine CallA.of pg ord17 Tryz.func17 rfl Tryz.ntmps17 Tryz.results17 rfl fun h0 G0 O0 => ?_
  repeat' (first | refine Sp.h ?_ | refine Lk.r rfl ?_ | refine Rf.mk rfl ?_ | (apply Bd.t; (focus (first | assumption | omega | rfl))) | (refine All.mk ?_; intro _) | (apply TkB.r; (focus (repeat (first | exact Take.here | apply Take.there)))) | refine Ch.l ⟨rfl, rfl⟩ ?_ | fail | (apply Cl.p (hva); (focus repeat' (first | exact Lend.nil | apply Lend.keep | fail))) | (apply Cl.p (hvc); (focus repeat' (first | exact Lend.nil | apply Lend.keep | fail))))
  repeat' (first | refine Sp.h ?_ | refine Lk.r rfl ?_ | refine Rf.mk rfl ?_ | (apply Om.mk; (focus first | omega | (simp <;> omega))) | (refine All.mk ?_; intro _) | (apply TkA.r; (focus (repeat (first | exact Take.here | apply Take.there)))) | refine Ce.l rfl ?_ | (apply Fk.r; (focus (repeat (first | exact FillA.nil | (apply FillA.agg; (focus rfl); (focus rfl); (focus (repeat (first | exact SetAs.z | (apply SetAs.c; (focus (repeat (first | assumption | exact SetA.z | apply SetA.s)))))))) | (apply FillA.one; (focus rfl); (focus infer_instance); (focus (repeat (first | assumption | exact SetA.z | apply SetA.s)))))))) | refine Rf.mk ⟨rfl, rfl⟩ ?_ | refine Rf.mk ⟨rfl, rfl, rfl⟩ ?_ | refine Mp.same ?_ | fail | (apply Cl.p (hce); (focus repeat' (first | exact Lend.nil | apply Lend.keep | fail))))
  rename_i b3 v0 v
  apply CA.retype (m := l) (g := mgC)
  focus (repeat (first | exact Take.here | apply Take.there))
  focus simp
  refine CA.loop (fun x : Nat × List MgS => ⟨[(2, ints c), (8, tbls (mrgF m)), (9, .ow v), (10, it x.1)], [arrR v 44 3 x.2 mgC]⟩)
    (fun x => x.1 ≤ l.length ∧ x.2 = (setF c (mrgF m) l).take x.1 ++ l.drop x.1) (fun x => l.length - x.1) (0, l) ⟨by (repeat (first | exact trivial | refine ⟨rfl, ?_⟩)), by (repeat (first | exact Subl.nil | refine Subl.cons (by (repeat (first | exact Take.here | apply Take.there))) ?_))⟩ ⟨Nat.zero_le _, by simp⟩ ?_
  rintro ⟨i, D⟩ ⟨hi, hD⟩
  simp only at hi hD
  simp only
  by_cases hin : i < l.length
  · obtain ⟨g, hgi⟩ := get_of hin
    obtain ⟨t, hti⟩ := get_of (l := mrgF m) (i := i) (by omega)
    have hml := valL_len h1 hti hgi
    have hsl : ((setF c (mrgF m) l).take i).length = i := by rw [List.length_take, setF_len]; omega
    have hDl : D.length = l.length := by rw [hD, List.length_append, hsl, List.length_drop]; omega
    have hDi : D[i]? = some g := by
      rw [hD, List.getElem?_append_right (by omega), List.getElem?_drop, hsl]
      simpa using hgi
    have hun := unseen_p g.marks c (by omega)
    have hdr : l.drop i = g :: l.drop (i + 1) := by
      have h9 := List.drop_eq_getElem_cons hin
      rw [(List.getElem?_eq_some_iff.1 hgi).2] at h9
      exact h9
    have hA : D.set i (setG c t g) = (setF c (mrgF m) l).take (i + 1) ++ l.drop (i + 1) := by
      rw [hD, hdr, List.set_append, if_neg (by omega), hsl, Nat.sub_self, List.set_cons_zero, List.take_add_one, setF_at hti hgi]
      simp
    have inv : Inv mgC [bl g.put, bl g.drop, mks (fgK c g.marks)] ⟨g.put, g.drop, fgK c g.marks⟩ := ⟨rfl⟩
    have inv2 : Inv mgC [bl true, bl g.drop, mks (fgK c g.marks)] ⟨true, g.drop, fgK c g.marks⟩ := ⟨rfl⟩
    have inv3 : Inv mgC [bl g.put, bl true, mks (fgK c g.marks)] ⟨g.put, true, fgK c g.marks⟩ := ⟨rfl⟩
    have hxs : (D.set i ⟨g.put, g.drop, fgK c g.marks⟩)[i]? = some ⟨g.put, g.drop, fgK c g.marks⟩ := by rw [List.getElem?_set, if_pos rfl, if_pos (by omega)]
    by_cases hr : isReg t.kind
    · have he : setG c t g = g := if_pos (.inl hr)
      rw [he, set_same hDi] at hA
      have hns : ¬ isSetK t.kind := by unfold isSetK; unfold isReg at hr; omega
      repeat' (first | refine Sp.h ?_ | refine Lk.r rfl ?_ | refine Rf.mk rfl ?_ | (apply Bd.t; (focus (first | assumption | omega | rfl))) | (apply Bd.f; (focus (first | assumption | omega | exact Bool.false_ne_true))) | (apply TkA.r; (focus (repeat (first | exact Take.here | apply Take.there)))) | (apply Ix.q; (focus exact rfl); (focus assumption)) | (apply At.r; (focus assumption)) | (apply Ov.n; (focus first | omega | (simp <;> omega))) | fail | (apply Cl.p (hun); (focus repeat' (first | exact Lend.nil | apply Lend.keep | fail))) | (apply Cl.p (isSet34_p _); (focus repeat' (first | exact Lend.nil | apply Lend.keep | fail))))
      exact PA.lp (i + 1, D) ⟨by (repeat (first | exact trivial | refine ⟨rfl, ?_⟩)), by (repeat (first | exact Subl.nil | refine Subl.cons (by (repeat (first | exact Take.here | apply Take.there))) ?_))⟩ ⟨⟨hin, hA⟩, by simp only; omega⟩
    · have hk := kindM hm.lay t (List.mem_of_getElem? hti)
      have hss : isSetK t.kind := by unfold isSetK; unfold isReg at hr; omega
      by_cases hs : (fgK c g.marks).length = g.marks.length
      · have he : setG c t g = g := if_pos (.inr hs)
        rw [he, set_same hDi] at hA
        repeat' (first | refine Sp.h ?_ | refine Lk.r rfl ?_ | refine Rf.mk rfl ?_ | (apply Bd.t; (focus (first | assumption | omega | rfl))) | (refine Im.mk ?_; intro _) | (apply TkA.r; (focus (repeat (first | exact Take.here | apply Take.there)))) | (apply Ix.q; (focus exact rfl); (focus assumption)) | (apply At.r; (focus assumption)) | (apply Ov.n; (focus first | omega | (simp <;> omega))) | fail | (apply Cl.p (hun); (focus repeat' (first | exact Lend.nil | apply Lend.keep | fail))) | (apply Cl.p (isSet34_p _); (focus repeat' (first | exact Lend.nil | apply Lend.keep | fail))))
        exact PA.lp (i + 1, D) ⟨by (repeat (first | exact trivial | refine ⟨rfl, ?_⟩)), by (repeat (first | exact Subl.nil | refine Subl.cons (by (repeat (first | exact Take.here | apply Take.there))) ?_))⟩ ⟨⟨hin, hA⟩, by simp only; omega⟩
      · have hn : ¬ (isReg t.kind ∨ (fgK c g.marks).length = g.marks.length) := fun h => h.elim hr hs
        by_cases k2 : t.kind = 2
        · have he : setG c t g = ⟨true, g.drop, fgK c g.marks⟩ := by rw [setG, if_neg hn, if_pos k2]
          rw [he] at hA
          repeat' (first | refine Sp.h ?_ | refine Lk.r rfl ?_ | refine Rf.mk rfl ?_ | (apply Bd.t; (focus (first | assumption | omega | rfl))) | (apply Bd.f; (focus (first | assumption | omega | exact Bool.false_ne_true))) | (refine Im.mk ?_; intro _) | (apply TkA.r; (focus (repeat (first | exact Take.here | apply Take.there)))) | (apply Ix.q; (focus exact rfl); (focus assumption)) | (apply At.r; (focus assumption)) | (apply SetAk.r; (focus (repeat (first | assumption | exact SetA.z | apply SetA.s)))) | (apply Up.inv; (focus repeat (first | apply LN.cons | exact LN.nil)); (focus infer_instance)) | (apply Ov.n; (focus first | omega | (simp <;> omega))) | fail | (apply Cl.p (hun); (focus repeat' (first | exact Lend.nil | apply Lend.keep | fail))) | (apply Cl.p (isSet34_p _); (focus repeat' (first | exact Lend.nil | apply Lend.keep | fail))))
          rw [List.set_set, hA]
          exact PA.lp (i + 1, _) ⟨by (repeat (first | exact trivial | refine ⟨rfl, ?_⟩)), by (repeat (first | exact Subl.nil | refine Subl.cons (by (repeat (first | exact Take.here | apply Take.there))) ?_))⟩ ⟨⟨hin, rfl⟩, by simp only; omega⟩
        · have he : setG c t g = ⟨g.put, true, fgK c g.marks⟩ := by rw [setG, if_neg hn, if_neg k2]
          rw [he] at hA
          repeat' (first | refine Sp.h ?_ | refine Lk.r rfl ?_ | refine Rf.mk rfl ?_ | (apply Bd.t; (focus (first | assumption | omega | rfl))) | (apply Bd.f; (focus (first | assumption | omega | exact Bool.false_ne_true))) | (refine Im.mk ?_; intro _) | (apply TkA.r; (focus (repeat (first | exact Take.here | apply Take.there)))) | (apply Ix.q; (focus exact rfl); (focus assumption)) | (apply At.r; (focus assumption)) | (apply SetAk.r; (focus (repeat (first | assumption | exact SetA.z | apply SetA.s)))) | (apply Up.inv; (focus repeat (first | apply LN.cons | exact LN.nil)); (focus infer_instance)) | (apply Ov.n; (focus first | omega | (simp <;> omega))) | fail | (apply Cl.p (hun); (focus repeat' (first | exact Lend.nil | apply Lend.keep | fail))) | (apply Cl.p (isSet34_p _); (focus repeat' (first | exact Lend.nil | apply Lend.keep | fail))))
          rw [List.set_set, hA]
          exact PA.lp (i + 1, _) ⟨by (repeat (first | exact trivial | refine ⟨rfl, ?_⟩)), by (repeat (first | exact Subl.nil | refine Subl.cons (by (repeat (first | exact Take.here | apply Take.there))) ?_))⟩ ⟨⟨hin, rfl⟩, by simp only; omega⟩
  · have hie : i = l.length := by omega
    subst hie
    rw [List.drop_length, List.append_nil, List.take_of_length_le (by rw [setF_len]; omega)] at hD
    have hfl : (setF c (mrgF m) l).length = l.length := by rw [setF_len]; omega
    subst hD
    repeat' (first | refine Sp.h ?_ | refine Lk.r rfl ?_ | refine Rf.mk rfl ?_ | (apply Bd.f; (focus (first | assumption | omega | exact Bool.false_ne_true))) | (apply TkA.r; (focus (repeat (first | exact Take.here | apply Take.there)))) | (apply Nm.r; (focus repeat (first | apply LN.cons | exact LN.nil))) | fail)
    exact ⟨_, _, .tup (.same (.same (.nil (by (repeat (first | exact Subl.nil | refine Subl.cons (by (repeat (first | exact Take.here | apply Take.there))) ?_)))))), v, rfl, rfl⟩
theorem settle34_p (m : ModS) (l : List MgS) (c : List Int) (hm : MOK m) : CallP Tryz.prog 17 [mdl m, mgs l, ints c] (resG (settleF m l c)) := by
  by_cases hv : ValL (mrgF m) l ∧ ValC c
  · rw [settleF_ok hv]
    exact CallA.fzt (T := 44) (by have := hm.mrg; rw [setF_len]; omega) (settle34_o m l c hm hv)
  · have hva := validR34_p m l hm.lay
    have hvc := validR_p c
    rw [settleF_bad hv]
    refine CallA.conv (a := .tup [.val (.slice none 0 0), it 1]) (.tup (.cons ALe.nil (.cons (ALe.refl _) .nil))) ?_
    refine CallA.of pg ord17 Tryz.func17 rfl Tryz.ntmps17 Tryz.results17 rfl fun h0 G0 O0 => ?_
    by_cases h1 : ValL (mrgF m) l
    · have h2 : ¬ ValC c := fun h => hv ⟨h1, h⟩
      repeat' (first | refine Sp.h ?_ | refine Lk.r rfl ?_ | refine Rf.mk rfl ?_ | (apply Bd.t; (focus (first | assumption | omega | rfl))) | (apply Bd.f; (focus (first | assumption | omega | exact Bool.false_ne_true))) | (refine All.mk ?_; intro _) | (apply TkB.r; (focus (repeat (first | exact Take.here | apply Take.there)))) | refine Ch.l ⟨rfl, rfl⟩ ?_ | (apply Nm.r; (focus repeat (first | apply LN.cons | exact LN.nil))) | fail | (apply Cl.p (hva); (focus repeat' (first | exact Lend.nil | apply Lend.keep | fail))) | (apply Cl.p (hvc); (focus repeat' (first | exact Lend.nil | apply Lend.keep | fail))))
      exact Fin.p rfl rfl
    · repeat' (first | refine Sp.h ?_ | refine Lk.r rfl ?_ | refine Rf.mk rfl ?_ | (apply Bd.f; (focus (first | assumption | omega | exact Bool.false_ne_true))) | (refine All.mk ?_; intro _) | (apply TkB.r; (focus (repeat (first | exact Take.here | apply Take.there)))) | refine Ch.l ⟨rfl, rfl⟩ ?_ | (apply Nm.r; (focus repeat (first | apply LN.cons | exact LN.nil))) | fail | (apply Cl.p (hva); (focus repeat' (first | exact Lend.nil | apply Lend.keep | fail))) | (apply Cl.p (hvc); (focus repeat' (first | exact Lend.nil | apply Lend.keep | fail))))
      exact Fin.p rfl rfl
theorem new34_p (m : ModS) (hm : LayOK m.sorts m.tables) : CallP Tryz.prog 19 [mdl m] (mgs (List.replicate (mrgF m).length mg0)) := by
  have hc := merged32_p m hm
  have hle := mrgF_le hm
  refine CallA.conv (a := .sl 3 (List.replicate (mrgF m).length ()) fun _ => [bl false, bl false, .val (.slice none 0 0)]) (ALe.sl (by simp) fun i x y _ hy => ?_) (CallA.fz (T := 44) (by simp; omega) ?_)
  · have : y = mg0 := (List.mem_replicate.1 (List.mem_of_getElem? hy)).2
    subst this
    exact .cons (ALe.refl _) (.cons (ALe.refl _) (.cons ALe.nil .nil))
  · refine CallA.of pg ord19 Tryz.func19 rfl Tryz.ntmps19 Tryz.results19 rfl fun h0 G0 O0 => ?_
    repeat' (first | refine Sp.h ?_ | refine Lk.r rfl ?_ | refine Rf.mk rfl ?_ | (refine Im.mk ?_; intro _) | (refine All.mk ?_; intro _) | (apply TkB.r; (focus (repeat (first | exact Take.here | apply Take.there)))) | refine Ch.l ⟨rfl, rfl⟩ ?_ | (apply Nm.r; (focus repeat (first | apply LN.cons | exact LN.nil))) | refine Rf.mk ⟨rfl, rfl, rfl⟩ ?_ | (apply Jx.r; (focus exact rfl); (focus first | omega | (simp; done) | (simp; omega))) | fail | (apply Cl.p (hc); (focus repeat' (first | exact Lend.nil | apply Lend.keep | fail))))
    refine CF.MkS.r (fun _ : Unit => [bl false, bl false, .val (.slice none 0 0)]) () rfl ?_
    repeat' (first | refine Sp.h ?_ | refine Lk.r rfl ?_ | (refine All.mk ?_; intro _) | (apply Nm.r; (focus repeat (first | apply LN.cons | exact LN.nil))) | fail)
    exact ⟨_, _, .one (.same (.nil (by (repeat (first | exact Subl.nil | refine Subl.cons (by (repeat (first | exact Take.here | apply Take.there))) ?_))))), _, rfl, rfl⟩
noncomputable def valuesQ (m : ModS) (l : List MgS) : Int × List (List Int) := @ite _ (ValL (mrgF m) l) (Classical.propDecidable _) (0, valsF (mrgF m) l) (1, [])
theorem valuesQ_ok {m : ModS} {l : List MgS} (h : ValL (mrgF m) l) : valuesQ m l = (0, valsF (mrgF m) l) := @if_pos _ (Classical.propDecidable _) h _ _ _
theorem valuesQ_bad {m : ModS} {l : List MgS} (h : ¬ ValL (mrgF m) l) : valuesQ m l = (1, []) := @if_neg _ (Classical.propDecidable _) h _ _ _
abbrev resV (q : Int × List (List Int)) : AV := .tup [clks q.2, it q.1]
theorem valuesQ_p (m : ModS) (l : List MgS) (hm : MOK m) : CallP Tryz.prog 14 [mdl m, mgs l] (resV (valuesQ m l)) := by
  by_cases hv : ValL (mrgF m) l
  · rw [valuesQ_ok hv]; exact valuesM_p m l hm.lay hv (by have := hm.mrg; omega)
  · have hva := validM_p m l hm.lay
    rw [valuesQ_bad hv]
    refine CallA.conv (a := .tup [.val (.slice none 0 0), it 1]) (.tup (.cons ALe.nil (.cons (ALe.refl _) .nil))) ?_
    refine CallA.of pg ord14 Tryz.func14 rfl Tryz.ntmps14 Tryz.results14 rfl fun h0 G0 O0 => ?_
    repeat' (first | refine Sp.h ?_ | refine Lk.r rfl ?_ | refine Rf.mk rfl ?_ | (apply Bd.f; (focus (first | assumption | omega | exact Bool.false_ne_true))) | (refine All.mk ?_; intro _) | (apply TkB.r; (focus (repeat (first | exact Take.here | apply Take.there)))) | refine Ch.l ⟨rfl, rfl⟩ ?_ | (apply Nm.r; (focus repeat (first | apply LN.cons | exact LN.nil))) | fail | (apply Cl.p (hva); (focus repeat' (first | exact Lend.nil | apply Lend.keep | fail))))
    exact Fin.p rfl rfl
theorem valuesQ34_p (m : ModS) (l : List MgS) (hm : MOK m) : CallP Tryz.prog 15 [mdl m, mgs l] (resV (valuesQ m l)) := by
  by_cases hv : ValL (mrgF m) l
  · rw [valuesQ_ok hv]; exact values34_p m l hm.lay hv (by have := hm.mrg; omega)
  · have hva := validR34_p m l hm.lay
    rw [valuesQ_bad hv]
    refine CallA.conv (a := .tup [.val (.slice none 0 0), it 1]) (.tup (.cons ALe.nil (.cons (ALe.refl _) .nil))) ?_
    refine CallA.of pg ord15 Tryz.func15 rfl Tryz.ntmps15 Tryz.results15 rfl fun h0 G0 O0 => ?_
    repeat' (first | refine Sp.h ?_ | refine Lk.r rfl ?_ | refine Rf.mk rfl ?_ | (apply Bd.f; (focus (first | assumption | omega | exact Bool.false_ne_true))) | (refine All.mk ?_; intro _) | (apply TkB.r; (focus (repeat (first | exact Take.here | apply Take.there)))) | refine Ch.l ⟨rfl, rfl⟩ ?_ | (apply Nm.r; (focus repeat (first | apply LN.cons | exact LN.nil))) | fail | (apply Cl.p (hva); (focus repeat' (first | exact Lend.nil | apply Lend.keep | fail))))
    exact Fin.p rfl rfl
end Go.Proofs.YtpgpdmmobblffaaGreat
namespace Go.Proofs.YtpgpdmmobblffaaGreat
open Go Go.CF
set_option maxRecDepth 20000
def tA : TblS := ⟨⟨#[97]⟩, 2, [], 0, 1, 0⟩
def tR : TblS := ⟨⟨#[114]⟩, 3, [], 0, 1, 1⟩
theorem sets_mrg : mrgF setsM = [tA, tR] := by
  simp [mrgF, mrgL, setsM, isStrict, szF, prodF, tA, tR]
theorem sets_lay : LayOK setsM.sorts setsM.tables := by
  refine ⟨by simp [setsM], fun x hx => by simp [setsM] at hx, by simp [setsM], fun t ht => ?_⟩
  simp only [setsM, List.mem_cons, List.not_mem_nil, or_false] at ht
  rcases ht with rfl | rfl <;> simp [TabOK, ColOK, Sound, setsM]
theorem sets_ok : MOK setsM := by
  refine ⟨sets_lay, by simp [setsM], by simp [setsM], fun a ha => ?_, by simp [strF, strN, setsM, isStrict], by rw [sets_mrg]; simp⟩
  have hl : ((mrgF setsM).length : Int) = 2 := by rw [sets_mrg]; rfl
  simp only [setsM, List.mem_cons, List.not_mem_nil, or_false] at ha
  rcases ha with rfl | rfl
  all_goals
    refine ⟨by simp, by simp, by simp, fun p hp => by simp at hp, fun p hp => ?_⟩
    simp only [List.mem_cons, List.not_mem_nil, or_false] at hp
    rcases hp with rfl | rfl <;> rw [hl] <;> decide
def ev1 : EvS := ⟨0, 1, 1, [0, 0], 0, 0, 0, 0, 0, 0, 0, 0, 1⟩
def ev2 : EvS := ⟨1, 1, 1, [0, 0], 0, 1, 0, 0, 0, 0, 0, 0, 1⟩
def ev3 : EvS := ⟨0, 2, 2, [1, 1], 0, 0, 0, 0, 0, 0, 0, 0, 2⟩
def k1 : MkS := ⟨0, 1, 1, 0⟩
def k2 : MkS := ⟨1, 1, 1, 0⟩
def k3 : MkS := ⟨0, 2, 2, 0⟩
theorem valC2 (a b : Int) (h : (a = 0 ∨ a = 1) ∧ (b = 0 ∨ b = 1)) : ValC [a, b] := by
  refine ⟨fun x hx => ?_, by simp, by simp⟩
  simp only [List.mem_cons, List.not_mem_nil, or_false] at hx
  unfold rngK
  omega
theorem ev1_ok : EvV setsM (ev1.past.length : Nat) ev1 := by
  refine ⟨⟨valC2 0 0 (by decide), by decide, ⟨0, by decide, by decide⟩, by decide, by unfold Btw; decide, .inl ⟨rfl, ?_, ?_⟩⟩, rfl, fun _ => by simp [ev1, setsM]⟩
  · unfold Sub0 Btw; decide
  · unfold GiveZ; decide
theorem ev2_ok : EvV setsM (ev2.past.length : Nat) ev2 := by
  refine ⟨⟨valC2 0 0 (by decide), by decide, ⟨0, by decide, by decide⟩, by decide, by unfold Btw; decide, .inl ⟨rfl, ?_, ?_⟩⟩, rfl, fun _ => by simp [ev2, setsM]⟩
  · unfold Sub0 Btw; decide
  · unfold GiveZ; decide
theorem ev3_ok : EvV setsM (ev3.past.length : Nat) ev3 := by
  refine ⟨⟨valC2 1 1 (by decide), by decide, ⟨1, by decide, by decide⟩, by decide, by unfold Btw; decide, .inl ⟨rfl, ?_, ?_⟩⟩, rfl, fun _ => by simp [ev3, setsM]⟩
  · unfold Sub0 Btw; decide
  · unfold GiveZ; decide
/-- What can be known of both sets: few marks, each with a name of its own. -/
theorem val_one {t : TblS} {p : Bool} {x : MkS} (hk : t.kind = 2 ∨ t.kind = 3) (hx : RightK t x) : ValG t ⟨p, false, [x]⟩ := by
  refine ⟨⟨fun h => by simp at h, fun h => by have := h.2; unfold isReg at this; omega, fun h => by simp at h, by simp⟩, fun i y hi hy => ?_⟩
  match i, hi, hy with
  | 0, _, hy =>
    have hy : x = y := by simpa using hy
    subst hy
    exact ⟨hx, fun j z h => by omega, fun z h => by omega⟩
theorem val_none {t : TblS} {p : Bool} (hk : t.kind = 2 ∨ t.kind = 3) : ValG t ⟨p, false, []⟩ :=
  ⟨⟨fun h => by simp at h, fun h => by have := h.2; unfold isReg at this; omega, fun h => by simp at h, by simp⟩, fun i y hi _ => by simp at hi⟩
theorem val_two {t : TblS} {p : Bool} {x y : MkS} (hk : t.kind = 2 ∨ t.kind = 3) (hx : RightK t x) (hy : RightK t y) (hn : ¬ Nm x y) (hl : ¬ LtK y x) : ValG t ⟨p, false, [x, y]⟩ := by
  refine ⟨⟨fun h => by simp at h, fun h => by have := h.2; unfold isReg at this; omega, fun h => by omega, by simp⟩, fun i z hi hz => ?_⟩
  match i, hi, hz with
  | 0, _, hz =>
    have hz : x = z := by simpa using hz
    subst hz
    exact ⟨hx, fun j z h => by omega, fun z h => by omega⟩
  | 1, _, hz =>
    have hz : y = z := by simpa using hz
    subst hz
    refine ⟨hy, fun j w hj hw => ?_, fun w _ hw => ?_⟩
    · have : j = 0 := by omega
      subst this
      have hw : x = w := by simpa using hw
      subst hw
      exact hn
    · have hw : x = w := by simpa using hw
      subst hw
      exact hl
def L0 : List MgS := [mg0, mg0]
def L1 : List MgS := [⟨false, false, [k1]⟩, ⟨true, false, []⟩]
def L2 : List MgS := [⟨false, false, [k1]⟩, ⟨true, false, [k2]⟩]
def L3 : List MgS := [⟨false, false, [k1, k3]⟩, ⟨true, false, []⟩]
theorem right_sets {t : TblS} {x : MkS} (ht : t = tA ∨ t = tR) (hx : x = k1 ∨ x = k2 ∨ x = k3) : RightK t x := by
  have hr : ¬ isReg t.kind := by rcases ht with rfl | rfl <;> simp [isReg, tA, tR]
  unfold RightK
  rw [show lowT t = 0 from if_neg hr, show highT t = 0 from if_neg hr]
  rcases hx with rfl | rfl | rfl <;> simp [k1, k2, k3]
theorem vl_two {a b : MgS} (ha : ValG tA a) (hb : ValG tR b) : ValL [tA, tR] [a, b] := by
  refine ⟨rfl, fun i t g ht hg => ?_⟩
  match i, ht, hg with
  | 0, ht, hg => simp at ht hg; subst ht; subst hg; exact ha
  | 1, ht, hg => simp at ht hg; subst ht; subst hg; exact hb
theorem vl0 : ValL [tA, tR] L0 := vl_two (val_none (.inl rfl)) (val_none (.inr rfl))
theorem vl1 : ValL [tA, tR] L1 := vl_two (val_one (.inl rfl) (right_sets (.inl rfl) (by simp))) (val_none (.inr rfl))
theorem vl2 : ValL [tA, tR] L2 := vl_two (val_one (.inl rfl) (right_sets (.inl rfl) (by simp))) (val_one (.inr rfl) (right_sets (.inr rfl) (by simp)))
theorem vl3 : ValL [tA, tR] L3 := vl_two (val_two (.inl rfl) (right_sets (.inl rfl) (by simp)) (right_sets (.inl rfl) (by simp)) (by simp [Nm, k1, k3]) (by simp [LtK, k1, k3])) (val_none (.inr rfl))
theorem applyF_two {m : ModS} {a b : MgS} {e : EvS} {x y : MgS} (hm : mrgF m = [tA, tR]) (hv : ValL [tA, tR] [a, b]) (he : EvV m (e.past.length : Nat) e) (hk : e.kind = 0) (hx : cellF e tA (updF (usF m e) 0) a = (0, x)) (hy : cellF e tR (updF (usF m e) 1) b = (0, y)) : applyF m [a, b] e = (0, [x, y]) := by
  have hC : cellsF (mrgF m) [a, b] (usF m e) e = [(0, x), (0, y)] := by
    rw [hm]
    have e1 : cellF e tA (updF (usF m e) ((0 : Nat) : Int)) a = (0, x) := hx
    have e2 : cellF e tR (updF (usF m e) ((1 : Nat) : Int)) b = (0, y) := hy
    simp only [cellsF, List.length_cons, List.length_nil, List.range_succ, List.range_zero, List.nil_append, List.cons_append, List.map_cons, List.map_nil, List.getElem?_cons_zero, List.getElem?_cons_succ, e1, e2]
  rw [applyF, if_neg (fun h => h ⟨by rw [hm]; exact hv, he⟩), if_neg (fun h => h hk), hC, gather_end (by simp)]
  simp
theorem has_k (a b : Int) (r n : Int) (h : ¬ (0 ≤ r ∧ 1 ≤ n ∧ ∃ x, [a, b][r.toNat]? = some x ∧ n ≤ x)) : ¬ HasC [a, b] r n := fun h9 => h h9.2
theorem app1 : applyF setsM L0 ev1 = (0, L1) := by
  refine applyF_two sets_mrg vl0 ev1_ok rfl ?_ ?_
  · show cellF ev1 tA (some (0, 0, 0)) mg0 = _
    simp [cellF, tA, mg0, addF, HasNm, insK, posK, idxN, isReg, ev1, k1]
  · show cellF ev1 tR (some (0, 1, 0)) mg0 = _
    simp [cellF, tR, mg0, fgK]
theorem app2 : applyF setsM L1 ev2 = (0, L2) := by
  refine applyF_two sets_mrg vl1 ev2_ok rfl ?_ ?_
  · show cellF ev2 tA (some (1, 0, 0)) ⟨false, false, [k1]⟩ = _
    have h : ¬ HasC [0, 0] 0 1 := has_k _ _ _ _ (by simp)
    simp [cellF, tA, fgK, ev2, k1, h]
  · show cellF ev2 tR (some (1, 1, 0)) ⟨true, false, []⟩ = _
    simp [cellF, tR, addF, HasNm, insK, posK, idxN, isReg, ev2, k2]
theorem app3 : applyF setsM L2 ev3 = (0, L3) := by
  refine applyF_two sets_mrg vl2 ev3_ok rfl ?_ ?_
  · show cellF ev3 tA (some (0, 0, 0)) ⟨false, false, [k1]⟩ = _
    simp [cellF, tA, addF, HasNm, Nm, insK, posK, idxN, LtK, isReg, ev3, k1, k3]
  · show cellF ev3 tR (some (0, 1, 0)) ⟨true, false, [k2]⟩ = _
    have h : HasC [1, 1] 1 1 := ⟨valC2 1 1 (by decide), by decide, by decide, 1, rfl, by decide⟩
    simp [cellF, tR, fgK, ev3, k2, h]
theorem setsV2 : setsV [tA, tR] L2 = [[1], [0]] := by decide
theorem setsV3 : setsV [tA, tR] L3 = [[1], [1]] := by decide
end Go.Proofs.YtpgpdmmobblffaaGreat
namespace Go.Proofs.YtpgpdmmobblffaaGreat
open Go Go.CF
set_option maxRecDepth 20000
theorem out_fx {v : Value} {L : List MgE} (hl : L.length ≤ 1000000) (hm : ∀ x ∈ L, x.marks.length ≤ 1000000) {l l' : List AV} {own : List Res} (ht : FX [] l l' own) : FX (outR v L) (.ow v :: l) (mgs (L.map MgE.g) :: l') own := by
  refine .sl .here (by omega) (.unb .here ?_) ht
  refine FX.rows (o := []) (r := mgeR) (f := mgeC) (g := mgC) (φ := MgE.g) L fun x hx o' => ?_
  have := hm x hx
  exact .le (ALe.refl _) (.le (ALe.refl _) (.sl .here (by omega) (FX.refl _) .nil))
theorem applyOK_p (m : ModS) (l : List MgS) (e : EvS) (F : List MgS) (hm : MOK m) (hF : applyF m l e = (0, F)) (hl : F.length ≤ 1000000) (hk : ∀ g ∈ F, g.marks.length ≤ 1000000) :
    CallP Tryz.prog 12 [mdl m, mgs l, evA' e] (.tup [mgs F, it 0]) := by
  refine CallA.fx (apply_a m l e hm) ?_
  rw [hF]
  rintro r o (⟨v, L, _, rfl, rfl, hL⟩ | ⟨h, _⟩)
  · have hL : L.map MgE.g = F := hL
    subst hL
    exact .tup (out_fx (by simpa using hl) (fun x hx => hk x.g (List.mem_map_of_mem hx)) (FX.refl _)) .nil
  · exact absurd rfl h
theorem new0_p : CallP Tryz.prog 18 [mdl setsM] (mgs L0) := by
  have h := new_p setsM sets_lay
  rw [sets_mrg] at h
  exact h
theorem app1_p : CallP Tryz.prog 12 [mdl setsM, mgs L0, evA' ev1] (.tup [mgs L1, it 0]) := applyOK_p _ _ _ _ sets_ok app1 (by decide) (by decide)
theorem app2_p : CallP Tryz.prog 12 [mdl setsM, mgs L1, evA' ev2] (.tup [mgs L2, it 0]) := applyOK_p _ _ _ _ sets_ok app2 (by decide) (by decide)
theorem app3_p : CallP Tryz.prog 12 [mdl setsM, mgs L2, evA' ev3] (.tup [mgs L3, it 0]) := applyOK_p _ _ _ _ sets_ok app3 (by decide) (by decide)
theorem sets_k : ∀ t ∈ mrgF setsM, t.kind = 2 ∨ t.kind = 3 := by
  rw [sets_mrg]; decide
theorem val2_p : CallP Tryz.prog 14 [mdl setsM, mgs L2] (.tup [clks [[1], [0]], it 0]) := by
  have h := valuesL_p setsM L2 sets_lay (by rw [sets_mrg]; exact vl2) sets_k (by rw [sets_mrg]; decide)
  rwa [sets_mrg, setsV2] at h
theorem val3_p : CallP Tryz.prog 14 [mdl setsM, mgs L3] (.tup [clks [[1], [1]], it 0]) := by
  have h := valuesL_p setsM L3 sets_lay (by rw [sets_mrg]; exact vl3) sets_k (by rw [sets_mrg]; decide)
  rwa [sets_mrg, setsV3] at h
set_option maxHeartbeats 4000000 in
theorem awake34_p : CallP Tryz.prog 8 [] (bl true) := by
  have hs := sets_p
  have hn := new0_p
  have hsa := same34_p L2 L2
  have hl2 := listsQ_p [[1], [0]] [[1], [0]]
  have hl3 := listsQ_p [[1], [1]] [[1], [1]]
  have g2 : L3[0]? = some ⟨false, false, [k1, k3]⟩ := rfl
  have g3 : L3[1]? = some ⟨true, false, []⟩ := rfl
  have g4 : (L3.length : Int) = 2 := rfl
  have g5 : (([k1, k3] : List MkS).length : Int) = 2 := rfl
  refine CallA.of pg ord8 Tryz.func8 rfl Tryz.ntmps8 Tryz.results8 rfl fun h0 G0 O0 => ?_
  repeat' (first | refine Sp.h ?_ | refine Lk.r rfl ?_ | refine Rf.mk rfl ?_ | (refine All.mk ?_; intro _) | (apply TkA.r; (focus (repeat (first | exact Take.here | apply Take.there)))) | (apply TkB.r; (focus (repeat (first | exact Take.here | apply Take.there)))) | refine Ch.l ⟨rfl, rfl⟩ ?_ | (apply SetAsk.r; (focus (repeat (first | exact SetAs.z | (apply SetAs.c; (focus (repeat (first | assumption | exact SetA.z | apply SetA.s)))))))) | (apply Fk.r; (focus (repeat (first | exact FillA.nil | (apply FillA.agg; (focus rfl); (focus rfl); (focus (repeat (first | exact SetAs.z | (apply SetAs.c; (focus (repeat (first | assumption | exact SetA.z | apply SetA.s)))))))) | (apply FillA.one; (focus rfl); (focus infer_instance); (focus (repeat (first | assumption | exact SetA.z | apply SetA.s)))))))) | (apply Nm.r; (focus repeat (first | apply LN.cons | exact LN.nil))) | refine Rf.mk ⟨rfl, rfl, rfl⟩ ?_ | fail | (apply Cl.p (hs); (focus repeat' (first | exact Lend.nil | apply Lend.keep | fail))) | (apply Cl.p (hn); (focus repeat' (first | exact Lend.nil | apply Lend.keep | fail))))
  rename_i b1 _ _ _
  apply CA.freezeX 20 (b := evs [ev1, ev2])
  focus rfl
  focus (repeat' (first | exact FX.nil | (apply FX.sl; (focus (repeat (first | exact Take.here | apply Take.there))); (focus exact Nat.le_of_ble_eq_true rfl)) | (apply FX.le; (focus first | exact ALe.refl _ | exact ALe.nil)) | apply FX.agg | apply FX.tup))
  refine CA.loop (fun x : Nat × List MgS => ⟨[(1, pm b1), (2, mgs x.2), (20, evs [ev1, ev2]), (21, it (2 : Nat)), (22, it x.1)], [blkR b1 30 (modC setsM)]⟩)
    (fun x => x = (0, L0) ∨ x = (1, L1) ∨ x = (2, L2)) (fun x => 2 - x.1) (0, L0) ⟨by (repeat (first | exact trivial | refine ⟨rfl, ?_⟩)), by (repeat (first | exact Subl.nil | refine Subl.cons (by (repeat (first | exact Take.here | apply Take.there))) ?_))⟩ (.inl rfl) ?_
  have g0 : [ev1, ev2][0]? = some ev1 := rfl
  have g1 : [ev1, ev2][1]? = some ev2 := rfl
  rintro x (rfl | rfl | rfl)
  · simp only
    repeat' (first | refine Sp.h ?_ | refine Lk.r rfl ?_ | refine Rf.mk rfl ?_ | (apply Bd.t; (focus (first | assumption | omega | rfl))) | (refine All.mk ?_; intro _) | (apply TkB.r; (focus (repeat (first | exact Take.here | apply Take.there)))) | (apply Ix.q; (focus exact rfl); (focus assumption)) | refine Ch.l ⟨rfl, rfl⟩ ?_ | (apply SetAsk.r; (focus (repeat (first | exact SetAs.z | (apply SetAs.c; (focus (repeat (first | assumption | exact SetA.z | apply SetA.s)))))))) | (apply Nm.r; (focus repeat (first | apply LN.cons | exact LN.nil))) | (apply Ov.n; (focus first | omega | (simp <;> omega))) | fail | (apply Cl.p (app1_p); (focus repeat' (first | exact Lend.nil | apply Lend.keep | fail))))
    exact PA.lp (1, L1) ⟨by (repeat (first | exact trivial | refine ⟨rfl, ?_⟩)), by (repeat (first | exact Subl.nil | refine Subl.cons (by (repeat (first | exact Take.here | apply Take.there))) ?_))⟩ ⟨.inr (.inl rfl), by decide⟩
  · simp only
    repeat' (first | refine Sp.h ?_ | refine Lk.r rfl ?_ | refine Rf.mk rfl ?_ | (apply Bd.t; (focus (first | assumption | omega | rfl))) | (refine All.mk ?_; intro _) | (apply TkB.r; (focus (repeat (first | exact Take.here | apply Take.there)))) | (apply Ix.q; (focus exact rfl); (focus assumption)) | refine Ch.l ⟨rfl, rfl⟩ ?_ | (apply SetAsk.r; (focus (repeat (first | exact SetAs.z | (apply SetAs.c; (focus (repeat (first | assumption | exact SetA.z | apply SetA.s)))))))) | (apply Nm.r; (focus repeat (first | apply LN.cons | exact LN.nil))) | (apply Ov.n; (focus first | omega | (simp <;> omega))) | fail | (apply Cl.p (app2_p); (focus repeat' (first | exact Lend.nil | apply Lend.keep | fail))))
    exact PA.lp (2, L2) ⟨by (repeat (first | exact trivial | refine ⟨rfl, ?_⟩)), by (repeat (first | exact Subl.nil | refine Subl.cons (by (repeat (first | exact Take.here | apply Take.there))) ?_))⟩ ⟨.inr (.inr rfl), by decide⟩
  · simp only
    repeat' (first | refine Sp.h ?_ | refine Lk.r rfl ?_ | refine Rf.mk rfl ?_ | (apply Bd.f; (focus (first | assumption | omega | exact Bool.false_ne_true))) | (apply TkB.r; (focus (repeat (first | exact Take.here | apply Take.there)))) | refine Ch.l ⟨rfl, rfl⟩ ?_ | fail)
    (apply Cl.p (val2_p); (focus repeat' (first | exact Lend.nil | apply Lend.keep | fail)))
    repeat' (first | refine Sp.h ?_ | refine Lk.r rfl ?_ | refine Rf.mk rfl ?_ | (refine All.mk ?_; intro _) | (apply TkB.r; (focus (repeat (first | exact Take.here | apply Take.there)))) | refine Ch.l ⟨rfl, rfl⟩ ?_ | (apply Fk.r; (focus (repeat (first | exact FillA.nil | (apply FillA.agg; (focus rfl); (focus rfl); (focus (repeat (first | exact SetAs.z | (apply SetAs.c; (focus (repeat (first | assumption | exact SetA.z | apply SetA.s)))))))) | (apply FillA.one; (focus rfl); (focus infer_instance); (focus (repeat (first | assumption | exact SetA.z | apply SetA.s)))))))) | refine Rf.mk ⟨rfl, rfl, rfl⟩ ?_ | fail)
    apply Cl.fx [mdl setsM, mgs L2, evA' ev3]
    focus (repeat' (first | exact FX.nil | (apply FX.sl; (focus (repeat (first | exact Take.here | apply Take.there))); (focus exact Nat.le_of_ble_eq_true rfl)) | (apply FX.le; (focus first | exact ALe.refl _ | exact ALe.nil)) | apply FX.agg | apply FX.tup))
    (apply Cl.p (app3_p); (focus repeat' (first | exact Lend.nil | apply Lend.keep | fail)))
    repeat' (first | refine Sp.h ?_ | refine Lk.r rfl ?_ | refine Rf.mk rfl ?_ | (apply TkB.r; (focus (repeat (first | exact Take.here | apply Take.there)))) | refine Ch.l ⟨rfl, rfl⟩ ?_ | fail)
    (apply Cl.p (val3_p); (focus repeat' (first | exact Lend.nil | apply Lend.keep | fail)))
    repeat' (first | refine Sp.h ?_ | refine Lk.r rfl ?_ | refine Rf.mk rfl ?_ | (refine All.mk ?_; intro _) | (apply Fk.r; (focus (repeat (first | exact FillA.nil | (apply FillA.agg; (focus rfl); (focus rfl); (focus (repeat (first | exact SetAs.z | (apply SetAs.c; (focus (repeat (first | assumption | exact SetA.z | apply SetA.s)))))))) | (apply FillA.one; (focus rfl); (focus infer_instance); (focus (repeat (first | assumption | exact SetA.z | apply SetA.s)))))))) | refine Rf.mk ⟨rfl, rfl, rfl⟩ ?_ | fail)
    apply Cl.fx [mgs L2, mgs L2]
    focus (repeat' (first | exact FX.nil | (apply FX.sl; (focus (repeat (first | exact Take.here | apply Take.there))); (focus exact Nat.le_of_ble_eq_true rfl)) | (apply FX.le; (focus first | exact ALe.refl _ | exact ALe.nil)) | apply FX.agg | apply FX.tup))
    (apply Cl.p (hsa); (focus repeat' (first | exact Lend.nil | apply Lend.keep | fail)))
    rw [decide_eq_true rfl]
    repeat' (first | refine Sp.h ?_ | refine Lk.r rfl ?_ | refine Rf.mk rfl ?_ | (apply Bd.t; (focus (first | assumption | omega | rfl))) | (refine All.mk ?_; intro _) | (apply Fk.r; (focus (repeat (first | exact FillA.nil | (apply FillA.agg; (focus rfl); (focus rfl); (focus (repeat (first | exact SetAs.z | (apply SetAs.c; (focus (repeat (first | assumption | exact SetA.z | apply SetA.s)))))))) | (apply FillA.one; (focus rfl); (focus infer_instance); (focus (repeat (first | assumption | exact SetA.z | apply SetA.s)))))))) | refine Rf.mk ⟨rfl, rfl, rfl⟩ ?_ | fail)
    apply Cl.fx [clks [[1], [0]], clks [[1], [0]]]
    focus (repeat' (first | exact FX.nil | (apply FX.sl; (focus (repeat (first | exact Take.here | apply Take.there))); (focus exact Nat.le_of_ble_eq_true rfl)) | (apply FX.le; (focus first | exact ALe.refl _ | exact ALe.nil)) | apply FX.agg | apply FX.tup))
    (apply Cl.p (hl2); (focus repeat' (first | exact Lend.nil | apply Lend.keep | fail)))
    rw [decide_eq_true rfl]
    repeat' (first | refine Sp.h ?_ | refine Lk.r rfl ?_ | refine Rf.mk rfl ?_ | (apply Bd.t; (focus (first | assumption | omega | rfl))) | (refine All.mk ?_; intro _) | (apply Fk.r; (focus (repeat (first | exact FillA.nil | (apply FillA.agg; (focus rfl); (focus rfl); (focus (repeat (first | exact SetAs.z | (apply SetAs.c; (focus (repeat (first | assumption | exact SetA.z | apply SetA.s)))))))) | (apply FillA.one; (focus rfl); (focus infer_instance); (focus (repeat (first | assumption | exact SetA.z | apply SetA.s)))))))) | refine Rf.mk ⟨rfl, rfl, rfl⟩ ?_ | fail)
    apply Cl.fx [clks [[1], [1]], clks [[1], [1]]]
    focus (repeat' (first | exact FX.nil | (apply FX.sl; (focus (repeat (first | exact Take.here | apply Take.there))); (focus exact Nat.le_of_ble_eq_true rfl)) | (apply FX.le; (focus first | exact ALe.refl _ | exact ALe.nil)) | apply FX.agg | apply FX.tup))
    (apply Cl.p (hl3); (focus repeat' (first | exact Lend.nil | apply Lend.keep | fail)))
    rw [decide_eq_true rfl]
    repeat' (first | refine Sp.h ?_ | refine Lk.r rfl ?_ | refine Rf.mk rfl ?_ | (apply Bd.t; (focus (first | assumption | omega | rfl))) | (refine Im.mk ?_; intro _) | (apply Ix.q; (focus exact rfl); (focus assumption)) | (apply Nm.r; (focus repeat (first | apply LN.cons | exact LN.nil))) | fail)
    exact Fin.p rfl (vb rfl)
end Go.Proofs.YtpgpdmmobblffaaGreat
namespace Go.Proofs.YtpgpdmmobblffaaGreat
open Go Go.CF
set_option maxRecDepth 20000
set_option maxHeartbeats 4000000 in
theorem forms34_p (m : ModS) (l : List MgS) (c : List Int) : CallP Tryz.prog 4 [mdl m, mgs l, ints c] (bl true) := by
  have haw := awake34_p
  have hfe := few32_c m []
  have hf4 := few34_p l
  refine CallA.of pg ord4 Tryz.func4 rfl Tryz.ntmps4 Tryz.results4 rfl fun h0 G0 O0 => ?_
  repeat' (first | refine Sp.h ?_ | refine Lk.r rfl ?_ | refine Rf.mk rfl ?_ | (apply Bd.t; (focus (first | assumption | omega | rfl))) | (refine All.mk ?_; intro _) | (apply TkB.r; (focus (repeat (first | exact Take.here | apply Take.there)))) | refine Ch.l ⟨rfl, rfl⟩ ?_ | fail | (apply Cl.p (haw); (focus repeat' (first | exact Lend.nil | fail))))
  apply Cl.fx [mdl m, evs []]
  focus (repeat' (first | exact FX.nil | (apply FX.sl; (focus (repeat (first | exact Take.here | apply Take.there))); (focus exact Nat.le_of_ble_eq_true rfl)) | (apply FX.le; (focus first | exact ALe.refl _ | exact ALe.nil)) | apply FX.agg | apply FX.tup))
  (apply Cl.use (hfe); (focus repeat' (first | exact Lend.nil | apply Lend.keep | fail)); (focus (repeat (first | exact Takes.nil | (apply Takes.cons; (focus (repeat (first | exact Take.here | apply Take.there))))))); (focus rfl))
  rintro _ _ ⟨b, rfl, rfl, hb⟩
  cases b with
  | false =>
    repeat' (first | refine Sp.h ?_ | refine Lk.r rfl ?_ | refine Rf.mk rfl ?_ | (apply Bd.f; (focus (first | assumption | omega | exact Bool.false_ne_true))) | (apply Nm.r; (focus repeat (first | apply LN.cons | exact LN.nil))) | fail | (apply Cl.p (hf4); (focus repeat' (first | fail))))
    exact Fin.p rfl rfl
  | true =>
    obtain ⟨hm, -⟩ := hb rfl
    by_cases hk : FewK l
    rotate_left
    · repeat' (first | refine Sp.h ?_ | refine Lk.r rfl ?_ | refine Rf.mk rfl ?_ | (apply Bd.t; (focus (first | assumption | omega | rfl))) | (apply Bd.f; (focus (first | assumption | omega | exact Bool.false_ne_true))) | (apply Nm.r; (focus repeat (first | apply LN.cons | exact LN.nil))) | fail | (apply Cl.p (hf4); (focus repeat' (first | exact Lend.nil | apply Lend.keep | fail))))
      exact Fin.p rfl rfl
    by_cases hc : 8 < c.length
    · repeat' (first | refine Sp.h ?_ | refine Lk.r rfl ?_ | refine Rf.mk rfl ?_ | (apply Bd.t; (focus (first | assumption | omega | rfl))) | (refine Im.mk ?_; intro _) | (apply Nm.r; (focus repeat (first | apply LN.cons | exact LN.nil))) | fail | (apply Cl.p (hf4); (focus repeat' (first | exact Lend.nil | apply Lend.keep | fail))))
      exact Fin.p rfl rfl
    have h1 := valuesQ_p m l hm
    have h2 := valuesQ34_p m l hm
    have h3 := settle_p m l c hm
    have h4 := settle34_p m l c hm
    have h5 := new_p m hm.lay
    have h6 := new34_p m hm.lay
    have h7 := validM_p m l hm.lay
    have h8 := validR34_p m l hm.lay
    have hsn := same34_p (List.replicate (mrgF m).length mg0) (List.replicate (mrgF m).length mg0)
    have hss := same34_p (settleF m l c).2 (settleF m l c).2
    have hsv := listsQ_p (valuesQ m l).2 (valuesQ m l).2
    rw [decide_eq_true rfl] at hsn hss hsv
    (repeat' (first | (show CA _ _ (Code.region 5 _ _) _ _; apply Stopped.out) | refine Sp.h ?_ | refine Lk.r rfl ?_ | refine Rf.mk rfl ?_ | (apply Bd.t; (focus (first | assumption | omega | rfl))) | (apply Bd.f; (focus (first | assumption | omega | exact Bool.false_ne_true))) | (refine Im.mk ?_; intro _) | fail | (apply Cl.p (hf4); (focus repeat' (first | exact Lend.nil | apply Lend.keep | fail))))); any_goals apply Stopped.mk
    (repeat' (first | (show CA _ _ (Code.region 6 _ _) _ _; apply Stopped.out) | refine Sp.h ?_ | refine Lk.r rfl ?_ | refine Rf.mk rfl ?_ | (apply TkB.r; (focus (repeat (first | exact Take.here | apply Take.there)))) | refine Ch.l ⟨rfl, rfl⟩ ?_ | fail | (apply Cl.p (h1); (focus repeat' (first | exact Lend.nil | apply Lend.keep | fail))))); any_goals apply Stopped.mk
    (repeat' (first | (show CA _ _ (Code.region 7 _ _) _ _; apply Stopped.out) | refine Sp.h ?_ | refine Lk.r rfl ?_ | refine Rf.mk rfl ?_ | (apply TkB.r; (focus (repeat (first | exact Take.here | apply Take.there)))) | refine Ch.l ⟨rfl, rfl⟩ ?_ | fail | (apply Cl.p (h2); (focus repeat' (first | exact Lend.nil | apply Lend.keep | fail))))); any_goals apply Stopped.mk
    (repeat' (first | (show CA _ _ (Code.region 8 _ _) _ _; apply Stopped.out) | refine Sp.h ?_ | refine Lk.r rfl ?_ | refine Rf.mk rfl ?_ | (apply TkB.r; (focus (repeat (first | exact Take.here | apply Take.there)))) | refine Ch.l ⟨rfl, rfl⟩ ?_ | fail | (apply Cl.p (h3); (focus repeat' (first | exact Lend.nil | apply Lend.keep | fail))))); any_goals apply Stopped.mk
    (repeat' (first | (show CA _ _ (Code.region 9 _ _) _ _; apply Stopped.out) | refine Sp.h ?_ | refine Lk.r rfl ?_ | refine Rf.mk rfl ?_ | (apply TkB.r; (focus (repeat (first | exact Take.here | apply Take.there)))) | refine Ch.l ⟨rfl, rfl⟩ ?_ | fail | (apply Cl.p (h4); (focus repeat' (first | exact Lend.nil | apply Lend.keep | fail))))); any_goals apply Stopped.mk
    repeat' (first | refine Sp.h ?_ | refine Lk.r rfl ?_ | refine Rf.mk rfl ?_ | (apply Bd.t; (focus (first | assumption | omega | rfl))) | refine OpK.r rfl ?_ | (apply TkB.r; (focus (repeat (first | exact Take.here | apply Take.there)))) | refine Ch.l ⟨rfl, rfl⟩ ?_ | (apply Nm.r; (focus repeat (first | apply LN.cons | exact LN.nil))) | (apply CA.draw; (focus rfl); (focus kernel_rfl); (focus kernel_rfl); (focus repeat' (first | apply ON.one | exact ON.done | exact ON.none | apply ON.alt)); (focus rfl)) | fail | (apply Cl.p (h5); (focus repeat' (first | exact Lend.nil | apply Lend.keep | fail))) | (apply Cl.p (h6); (focus repeat' (first | exact Lend.nil | apply Lend.keep | fail))) | (apply Cl.p (h7); (focus repeat' (first | exact Lend.nil | apply Lend.keep | fail))) | (apply Cl.p (h8); (focus repeat' (first | exact Lend.nil | apply Lend.keep | fail))) | (apply Cl.p (hsn); (focus ((repeat' (first | exact Lend.nil | apply Lend.keep | fail)); done))) | (apply Cl.p (hss); (focus ((repeat' (first | exact Lend.nil | apply Lend.keep | fail)); done))) | (apply Cl.p (hsv); (focus repeat' (first | exact Lend.nil | apply Lend.keep | fail))))
    all_goals exact Fin.p rfl (vb (decide_eq_true rfl))
end Go.Proofs.YtpgpdmmobblffaaGreat
