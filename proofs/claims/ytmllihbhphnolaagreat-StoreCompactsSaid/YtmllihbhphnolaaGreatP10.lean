/- Part 10 of the ground of this proof: what its texts say of the model, the program and the plain data; conditions: those that are named. -/
import Derived.Test.YtmllihbhphnolaaGreatP09
namespace Go.Proofs.YtmllihbhphnolaaGreat
open Go Go.CF
set_option maxRecDepth 20000
def iniT (t : TblS) : Int := min (max 0 t.lo) t.hi
noncomputable def srtD (l : List Int) : List Int := dd (srtI l)
theorem srtI_len (l : List Int) : (srtI l).length = l.length := by simp [srtI]
theorem srtD_len (l : List Int) : (srtD l).length ≤ l.length := by
  have := ddN_len (l := srtI l) (srtI l).length
  rw [srtI_len] at this
  rw [srtD, dd, srtI_len];exact this
def SI (l s : List Int) : Prop := s.Pairwise (· < ·) ∧ ∀ x, x ∈ s ↔ x ∈ l
theorem SI.uniq {l s t : List Int} (g1 : SI l s) (g2 : SI l t) : s = t := by
  have key : ∀ s t : List Int, s.Pairwise (· < ·) → t.Pairwise (· < ·) → (∀ x, x ∈ s ↔ x ∈ t) → s = t := by
    intro s
    induction s with
    | nil =>
      intro t _ _ h
      cases t with
      | nil => rfl
      | cons b t => exact absurd ((h b).2 (by simp)) (by simp)
    | cons a s ih =>
      intro t hs ht h
      cases t with
      | nil => exact absurd ((h a).1 (by simp)) (by simp)
      | cons b t =>
        obtain ⟨h1, h2⟩ := List.pairwise_cons.1 hs
        obtain ⟨h3, h4⟩ := List.pairwise_cons.1 ht
        have hab : a = b := by
          rcases List.mem_cons.1 ((h a).1 (by simp)) with e|e
          · exact e
          · rcases List.mem_cons.1 ((h b).2 (by simp)) with e2|e2
            · exact e2.symm
            · have := h1 b e2;have := h3 a e;omega
        subst hab
        rw [ih t h2 h4 fun x => ?_]
        have := h x
        simp only [List.mem_cons] at this
        constructor
        · intro hx
          rcases this.1 (.inr hx) with e|e
          · subst e;have := h1 _ hx;omega
          · exact e
        · intro hx
          rcases this.2 (.inr hx) with e|e
          · subst e;have := h3 _ hx;omega
          · exact e
  exact key _ _ g1.1 g2.1 fun x => (g1.2 x).trans (g2.2 x).symm
theorem srtI_sorted (l : List Int) : (srtI l).Pairwise (· ≤ ·) := by
  have := List.pairwise_mergeSort (le := fun x y : Int => decide (x ≤ y)) (fun a b c h1 h2 => by simp at *;omega) (fun a b => by simp;omega) l
  exact this.imp fun h => by simpa using h
theorem srtD_si (l : List Int) : SI l (srtD l) := by
  have hs := srtI_sorted l
  have hm : ∀ x, x ∈ srtI l ↔ x ∈ l := fun x => List.mem_mergeSort
  suffices key : ∀ i, i ≤ (srtI l).length → (ddN (srtI l) i).Pairwise (· < ·) ∧ (∀ x, x ∈ ddN (srtI l) i ↔ x ∈ (srtI l).take i) by
    obtain ⟨h1, h2⟩ := key _ (Nat.le_refl _)
    rw [List.take_length] at h2
    exact ⟨h1, fun x => (h2 x).trans (hm x)⟩
  intro i
  induction i with
  | zero => intro _;exact ⟨List.Pairwise.nil, fun x => by simp [ddN]⟩
  | succ i ih =>
    intro hi
    obtain ⟨h1, h2⟩ := ih (by omega)
    obtain ⟨x, hx⟩ := get_of (l := srtI l) (i := i) (by omega)
    have ht : (srtI l).take (i + 1) = (srtI l).take i ++ [x] := by rw [List.take_add_one, hx];rfl
    by_cases hc : 0 < i ∧ (srtI l)[i]? = (srtI l)[i - 1]?
    · rw [ddN_eq hc.1 hc.2, ht]
      refine ⟨h1, fun y => (h2 y).trans ?_⟩
      have hxm : x ∈ (srtI l).take i := List.mem_of_getElem? (i := i - 1) (by rw [List.getElem?_take, if_pos (by omega), ← hc.2, hx])
      simp only [List.mem_append, List.mem_singleton]
      exact ⟨.inl, fun h => h.elim id fun e => e ▸ hxm⟩
    · rw [ddN_ne hx (fun h0 e => hc ⟨h0, e⟩), ht]
      refine ⟨List.pairwise_append.2 ⟨h1, by simp, fun a ha b hb => ?_⟩, fun y => by simp [h2]⟩
      have hb : b = x := by simpa using hb
      subst hb
      have ha := (h2 a).1 ha
      obtain ⟨j, hj⟩ := List.getElem?_of_mem ha
      have hjl : j < i := by have := (List.getElem?_eq_some_iff.1 hj).1;simp at this;omega
      rw [List.getElem?_take, if_pos hjl] at hj
      have hle : ∀ (p q : Nat) (u v : Int), p ≤ q → (srtI l)[p]? = some u → (srtI l)[q]? = some v → u ≤ v := fun p q u v hpq hu hv => by
        by_cases he : p = q
        · subst he;rw [hu] at hv;cases hv;omega
        · obtain ⟨p1, rfl⟩ := List.getElem?_eq_some_iff.1 hu
          obtain ⟨q1, rfl⟩ := List.getElem?_eq_some_iff.1 hv
          exact List.pairwise_iff_getElem.1 hs p q p1 q1 (by omega)
      obtain ⟨z, hz⟩ := get_of (l := srtI l) (i := i - 1) (by omega)
      have h3 := hle j (i - 1) a z (by omega) hj hz
      have h4 := hle (i - 1) i z b (by omega) hz hx
      have h5 : b ≠ z := fun e => hc ⟨by omega, by rw [hx, hz, e]⟩
      omega
noncomputable def valK (t : TblS) (g : MgS) : List Int := if t.kind = 2 ∨ t.kind = 3 then setV t g else if g.marks.length = 0 then [iniT t] else srtD (g.marks.map MkS.val)
set_option maxHeartbeats 1000000 in
theorem valuesR_p (t : TblS) (g : MgS) (hk : ¬ (t.kind = 2 ∨ t.kind = 3)) (hl : g.marks.length ≤ 100000) : CallP Tryz.prog 186 [.agg (tblC t), .agg (mgC g)] (ints (valK t g)) := by
  have h1 : t.kind ≠ 2 := fun h => hk (.inl h)
  have h2 : t.kind ≠ 3 := fun h => hk (.inr h)
  by_cases h0 : g.marks.length = 0
  · have hv : valK t g = [iniT t] := by rw [valK, if_neg hk, if_pos h0]
    rw [hv]
    refine CallA.fz (T := 3) (by simp) ?_
    refine CallA.of pg ord186 Tryz.func186 rfl Tryz.ntmps186 Tryz.results186 rfl fun h0 G0 O0 => ?_
    (repeat' (first|(show CA _ _ Code.ret _ _;apply Stopped.out)|refine Sp.h ?_|refine Lk.r rfl ?_|refine Rf.mk rfl ?_|(apply Bd.t;(focus first|assumption|omega|rfl))|(apply Bd.f;(focus first|assumption|omega|exact Bool.false_ne_true))|(refine Im.mk ?_;intro _)|(refine All.mk ?_;intro _)|(apply TkB.r;(focus repeat first|exact .here|apply Take.there))|(apply Fk.r;(focus (repeat (first|exact FillA.nil|(apply FillA.agg;(focus rfl);(focus rfl);(focus (repeat (first|exact SetAs.z|(apply SetAs.c;(focus (repeat first|assumption|exact SetA.z|apply SetA.s)))))))|(apply FillA.one;(focus rfl);(focus infer_instance);(focus (repeat first|assumption|exact SetA.z|apply SetA.s)))))))|refine Rf.mk ⟨rfl, rfl, rfl⟩ ?_|fail));any_goals apply Stopped.mk
    apply CA.retype (m := [iniT t]) (g := i1)
    focus (repeat first|exact .here|apply Take.there)
    focus rfl
    repeat' (first|refine Sp.h ?_|refine Lk.r rfl ?_|(apply Nm.r;focus repeat first|apply LN.cons|exact LN.nil)|fail)
    exact ⟨_, _, .one (.same (.nil (by (repeat first|exact .nil|refine .cons (by repeat first|exact .here|apply Take.there) ?_)))), _, rfl, rfl⟩
  · have hv : valK t g = srtD (g.marks.map MkS.val) := by rw [valK, if_neg hk, if_neg h0]
    have hln := srtD_len (g.marks.map MkS.val)
    rw [List.length_map] at hln
    rw [hv]
    refine CallA.fz (T := 3) (by omega) ?_
    refine CallA.of pg ord186 Tryz.func186 rfl Tryz.ntmps186 Tryz.results186 rfl fun h0 G0 O0 => ?_
    repeat' (first|refine Sp.h ?_|refine Lk.r rfl ?_|refine Rf.mk rfl ?_|(apply Bd.f;(focus first|assumption|omega|exact Bool.false_ne_true))|(refine Im.mk ?_;intro _)|(refine All.mk ?_;intro _)|(apply TkB.r;(focus repeat first|exact .here|apply Take.there))|fail)
    refine CA.nilOwn 5 3 1 i1 rfl fun v => ?_
    refine CA.loop (fun x : Nat × Value => ⟨[(5, .ow x.2), (54, mks g.marks), (55, it (g.marks.length : Nat)), (56, it x.1)], [arrR x.2 3 1 ((g.marks.take x.1).map MkS.val) i1]⟩) (fun x => x.1 ≤ g.marks.length) (fun x => g.marks.length - x.1) (0, v) ⟨by repeat first|trivial|refine ⟨rfl,?_⟩,by repeat first|exact .nil|refine .cons (by repeat first|exact .here|apply Take.there) ?_⟩ (Nat.zero_le _) ?_
    rintro ⟨i, w⟩ hi
    simp only at hi
    simp only
    by_cases hin : i < g.marks.length
    · obtain ⟨x, hx⟩ := get_of hin
      have hsu : (g.marks.take (i + 1)).map MkS.val = (g.marks.take i).map MkS.val ++ [x.val] := by rw [List.take_add_one, hx];simp
      repeat' (first|refine Sp.h ?_|refine Lk.r rfl ?_|refine Rf.mk rfl ?_|(apply Bd.t;(focus first|assumption|omega|rfl))|(apply Om.mk;(focus first|omega|(simp <;> omega)))|(refine All.mk ?_;intro _)|(apply TkA.r;(focus repeat first|exact .here|apply Take.there))|(apply TkB.r;(focus repeat first|exact .here|apply Take.there))|(apply Ix.q;(focus exact rfl);(focus assumption))|refine Ce.r ?_|refine Ch.l ⟨rfl, rfl⟩ ?_|(apply SetAsk.r;(focus (repeat (first|exact SetAs.z|(apply SetAs.c;(focus (repeat first|assumption|exact SetA.z|apply SetA.s)))))))|(apply Fk.r;(focus (repeat (first|exact FillA.nil|(apply FillA.agg;(focus rfl);(focus rfl);(focus (repeat (first|exact SetAs.z|(apply SetAs.c;(focus (repeat first|assumption|exact SetA.z|apply SetA.s)))))))|(apply FillA.one;(focus rfl);(focus infer_instance);(focus (repeat first|assumption|exact SetA.z|apply SetA.s)))))))|(apply Nm.r;focus repeat first|apply LN.cons|exact LN.nil)|refine Rf.mk ⟨rfl, rfl⟩ ?_|refine Rf.mk ⟨rfl, rfl, rfl⟩ ?_|(apply Mp.lit;(focus repeat (first|exact MpL.nil|(apply MpL.cons;(focus rfl))|(apply MpL.inv;(focus repeat (first|apply LN.cons|exact LN.nil));(focus infer_instance)))))|(apply Ov.n;(focus first|omega|(simp <;> omega)))|fail)
      rw [← hsu]
      exact PA.lp (i + 1, _) ⟨by repeat first|trivial|refine ⟨rfl,?_⟩,by repeat first|exact .nil|refine .cons (by repeat first|exact .here|apply Take.there) ?_⟩ ⟨hin, by simp only;omega⟩
    · have hie : i = g.marks.length := by omega
      subst hie
      rw [List.take_length]
      have hso := sortInt_a w 3 (g.marks.map MkS.val) (by simp;omega)
      have hco := compactI_a w (srtI (g.marks.map MkS.val)) (by rw [srtI_len];simp;omega)
      repeat' (first|refine Sp.h ?_|refine Lk.r rfl ?_|refine Rf.mk rfl ?_|(apply Bd.f;(focus first|assumption|omega|exact Bool.false_ne_true))|fail)
      (apply Cl.use (hso);(focus repeat' (first|exact Lend.nil|apply Lend.keep|fail));(focus (repeat (first|exact Takes.nil|(apply Takes.cons;(focus repeat first|exact .here|apply Take.there)))));(focus rfl))
      rintro _ _ ⟨rfl, rfl⟩
      repeat' (first|refine Sp.h ?_|refine Lk.r rfl ?_|refine Rf.mk rfl ?_|fail)
      (apply Cl.use (hco);(focus repeat' (first|exact Lend.nil|apply Lend.keep|fail));(focus (repeat (first|exact Takes.nil|(apply Takes.cons;(focus repeat first|exact .here|apply Take.there)))));(focus rfl))
      rintro _ _ ⟨w2, rfl, rfl⟩
      repeat' (first|refine Sp.h ?_|refine Lk.r rfl ?_|(apply Nm.r;focus repeat first|apply LN.cons|exact LN.nil)|fail)
      exact ⟨_, _, .one (.same (.nil (by (repeat first|exact .nil|refine .cons (by repeat first|exact .here|apply Take.there) ?_)))), _, rfl, rfl⟩
theorem values_p (t : TblS) (g : MgS) (hl : g.marks.length ≤ 100000) : CallP Tryz.prog 186 [.agg (tblC t), .agg (mgC g)] (ints (valK t g)) := by
  by_cases h : t.kind = 2 ∨ t.kind = 3
  · rw [valK, if_pos h];exact valuesS_p t g h
  · exact valuesR_p t g h hl
end Go.Proofs.YtmllihbhphnolaaGreat
namespace Go.Proofs.YtmllihbhphnolaaGreat
open Go Go.CF
set_option maxRecDepth 20000
theorem si_keep {l s : List Int} {x : Int} (h : SI l s) (hx : x ∈ s) : SI (l ++ [x]) s :=
  ⟨h.1, fun y => by
    rw [List.mem_append, List.mem_singleton, h.2]
    exact ⟨.inl, fun e => e.elim id fun e => e ▸ (h.2 x).1 hx⟩⟩
end Go.Proofs.YtmllihbhphnolaaGreat
namespace Go.Proofs.YtmllihbhphnolaaGreat
open Go Go.CF
set_option maxRecDepth 20000
noncomputable def valsF (ts : List TblS) (l : List MgS) : List (List Int) := (ts.zip l).map fun p => valK p.1 p.2
theorem valsF_succ {ts : List TblS} {l : List MgS} {i : Nat} {t : TblS} {g : MgS} (ht : ts[i]? = some t) (hg : l[i]? = some g) : valsF (ts.take (i + 1)) (l.take (i + 1)) = valsF (ts.take i) (l.take i) ++ [valK t g] := by
  have h1 := (List.getElem?_eq_some_iff.1 ht).1
  have h2 := (List.getElem?_eq_some_iff.1 hg).1
  rw [List.take_add_one, List.take_add_one, ht, hg, valsF, Option.toList_some, Option.toList_some, List.zip_append (by simp;omega), List.map_append]
  rfl
theorem valsF_len (ts : List TblS) (l : List MgS) : (valsF ts l).length = min ts.length l.length := by simp [valsF]
theorem valL_len {ts : List TblS} {l : List MgS} (hv : ValL ts l) {i : Nat} {t : TblS} {g : MgS} (ht : ts[i]? = some t) (hg : l[i]? = some g) : g.marks.length ≤ 1024 := (hv.2 i t g ht hg).1.2.2.2
theorem valuesM_p (m : ModS) (l : List MgS) (hm : LayOK m.sorts m.tables) (hv : ValL (mrgF m) l) (hl : (mrgF m).length ≤ 1000) :
    CallP Tryz.prog 130 [mdl m, mgs l] (.tup [clks (valsF (mrgF m) l), it 0]) := by
  refine CallA.fzt (T := 22) (by rw [valsF_len];omega) ?_
  have hva := validM_p m l hm
  have hce := cells_p m hm
  have hlen := hv.1
  refine CallA.of pg ord130 Tryz.func130 rfl Tryz.ntmps130 Tryz.results130 rfl fun h0 G0 O0 => ?_
  repeat' (first|refine Sp.h ?_|refine Lk.r rfl ?_|refine Rf.mk rfl ?_|(apply Bd.t;(focus first|assumption|omega|rfl))|(refine Im.mk ?_;intro _)|(refine All.mk ?_;intro _)|(apply TkB.r;(focus repeat first|exact .here|apply Take.there))|refine Ch.l ⟨rfl, rfl⟩ ?_|(apply Cl.p (hva);(focus repeat' (first|exact Lend.nil|apply Lend.keep|fail)))|(apply Cl.p (hce);(focus repeat' (first|exact Lend.nil|apply Lend.keep|fail))))
  refine CA.nilOwn 6 22 1 clkC rfl fun v => ?_
  refine CA.loop (fun x : Nat × Value => ⟨[(1, mgs l), (6, .ow x.2), (14, tbls (mrgF m)), (15, it ((mrgF m).length : Nat)), (16, it x.1)], [arrR x.2 22 1 (valsF ((mrgF m).take x.1) (l.take x.1)) clkC]⟩) (fun x => x.1 ≤ (mrgF m).length) (fun x => (mrgF m).length - x.1) (0, v) ⟨by repeat first|trivial|refine ⟨rfl,?_⟩,by repeat first|exact .nil|refine .cons (by repeat first|exact .here|apply Take.there) ?_⟩ (Nat.zero_le _) ?_
  rintro ⟨i, w⟩ hi
  simp only at hi
  simp only
  by_cases hin : i < (mrgF m).length
  · obtain ⟨t, ht⟩ := get_of hin
    obtain ⟨g, hg⟩ := get_of (l := l) (i := i) (by omega)
    have hsu := valsF_succ ht hg
    have hva := values_p t g (by have := valL_len hv ht hg;omega)
    have hln : (valsF ((mrgF m).take i) (l.take i)).length ≤ 1000 := by rw [valsF_len];simp;omega
    repeat' (first|refine Sp.h ?_|refine Lk.r rfl ?_|refine Rf.mk rfl ?_|(apply Bd.t;(focus first|assumption|omega|rfl))|refine OpK.r rfl ?_|(apply Om.mk;(focus first|omega|(simp <;> omega)))|(refine All.mk ?_;intro _)|(apply TkA.r;(focus repeat first|exact .here|apply Take.there))|(apply TkB.r;(focus repeat first|exact .here|apply Take.there))|(apply Ix.q;(focus exact rfl);(focus assumption))|refine Ce.r ?_|refine Ch.l ⟨rfl, rfl⟩ ?_|(apply SetAsk.r;(focus (repeat (first|exact SetAs.z|(apply SetAs.c;(focus (repeat first|assumption|exact SetA.z|apply SetA.s)))))))|(apply Fk.r;(focus (repeat (first|exact FillA.nil|(apply FillA.agg;(focus rfl);(focus rfl);(focus (repeat (first|exact SetAs.z|(apply SetAs.c;(focus (repeat first|assumption|exact SetA.z|apply SetA.s)))))))|(apply FillA.one;(focus rfl);(focus infer_instance);(focus (repeat first|assumption|exact SetA.z|apply SetA.s)))))))|(apply Nm.r;focus repeat first|apply LN.cons|exact LN.nil)|refine Rf.mk ⟨rfl, rfl⟩ ?_|refine Rf.mk ⟨rfl, rfl, rfl⟩ ?_|(apply Mp.lit;(focus repeat (first|exact MpL.nil|(apply MpL.cons;(focus rfl))|(apply MpL.inv;(focus repeat (first|apply LN.cons|exact LN.nil));(focus infer_instance)))))|(apply CA.draw;(focus rfl);(focus kernel_rfl);(focus kernel_rfl);(focus repeat' (first|apply ON.one|exact ON.done|exact ON.none|apply ON.alt));(focus rfl))|(apply Ov.n;(focus first|omega|(simp <;> omega)))|(apply Cl.p (hva);(focus repeat' (first|exact Lend.nil|apply Lend.keep|fail))))
    rw [← hsu]
    exact PA.lp (i + 1, _) ⟨by repeat first|trivial|refine ⟨rfl,?_⟩,by repeat first|exact .nil|refine .cons (by repeat first|exact .here|apply Take.there) ?_⟩ ⟨hin, by simp only;omega⟩
  · have hie : i = (mrgF m).length := by omega
    subst hie
    rw [List.take_length, List.take_of_length_le (l := l) (by omega)]
    repeat' (first|refine Sp.h ?_|refine Lk.r rfl ?_|refine Rf.mk rfl ?_|(apply Bd.f;(focus first|assumption|omega|exact Bool.false_ne_true))|(apply Nm.r;focus repeat first|apply LN.cons|exact LN.nil)|fail)
    exact ⟨_, _, .tup (.same (.same (.nil (by (repeat first|exact .nil|refine .cons (by repeat first|exact .here|apply Take.there) ?_))))), _, rfl, rfl⟩
end Go.Proofs.YtmllihbhphnolaaGreat
namespace Go.Proofs.YtmllihbhphnolaaGreat
open Go Go.CF
set_option maxRecDepth 20000
noncomputable def valuesQ (m : ModS) (l : List MgS) : Int × List (List Int) := @ite _ (ValL (mrgF m) l) (Classical.propDecidable _) (0, valsF (mrgF m) l) (1, [])
theorem valuesQ_ok {m : ModS} {l : List MgS} (h : ValL (mrgF m) l) : valuesQ m l = (0, valsF (mrgF m) l) := @if_pos _ (Classical.propDecidable _) h _ _ _
theorem valuesQ_bad {m : ModS} {l : List MgS} (h : ¬ ValL (mrgF m) l) : valuesQ m l = (1, []) := @if_neg _ (Classical.propDecidable _) h _ _ _
abbrev resV (q : Int × List (List Int)) : AV := .tup [clks q.2, it q.1]
theorem valuesQ_p (m : ModS) (l : List MgS) (hm : MOK m) : CallP Tryz.prog 130 [mdl m, mgs l] (resV (valuesQ m l)) := by
  by_cases hv : ValL (mrgF m) l
  · rw [valuesQ_ok hv];exact valuesM_p m l hm.lay hv (by have := hm.mrg;omega)
  · have hva := validM_p m l hm.lay
    rw [valuesQ_bad hv]
    refine CallA.conv (a := .tup [.val (.slice none 0 0), it 1]) (.tup (.cons ALe.nil (.cons (ALe.refl _) .nil))) ?_
    refine CallA.of pg ord130 Tryz.func130 rfl Tryz.ntmps130 Tryz.results130 rfl fun h0 G0 O0 => ?_
    repeat' (first|refine Sp.h ?_|refine Lk.r rfl ?_|refine Rf.mk rfl ?_|(apply Bd.f;(focus first|assumption|omega|exact Bool.false_ne_true))|(refine All.mk ?_;intro _)|(apply TkB.r;(focus repeat first|exact .here|apply Take.there))|refine Ch.l ⟨rfl, rfl⟩ ?_|(apply Nm.r;focus repeat first|apply LN.cons|exact LN.nil)|(apply Cl.p (hva);(focus repeat' (first|exact Lend.nil|apply Lend.keep|fail))))
    exact Fin.p rfl rfl
end Go.Proofs.YtmllihbhphnolaaGreat
namespace Go.Proofs.YtmllihbhphnolaaGreat
open Go Go.CF
set_option maxRecDepth 20000
def joinC (a b : List Int) : List Int := zipC max a b
theorem join_z {a b : List Int} (h : AlikeC [a, b]) : CallP Tryz.prog 50 [clks [a, b]] (ints (joinC a b)) :=
  CallA.fz (by have := ((alike2 a b).1 h).1.2;simp [joinC, zipC];omega) (join_o [a, b] h)
theorem clone_z (l : List Int) (hl : l.length ≤ 1000000000) : CallP Tryz.prog 83 [ints l] (ints l) := CallA.fz (by omega) (clone_o l hl)
end Go.Proofs.YtmllihbhphnolaaGreat
namespace Go.Proofs.YtmllihbhphnolaaGreat
open Go Go.CF
set_option maxRecDepth 20000
section
variable (s : Nat) (m : ModS) (b : NowS) (v : Value) (w : NowS)
theorem sclock_a (h : w.clock.length ≤ 100000) : CallA Tryz.prog 16 [pm s] [stoR s m b v w] fun r own => ∃ u, r = .ow u ∧ own = [arrR u 3 1 w.clock intC, stoR s m b v w] := by
  have h1 := clone_o w.clock (by omega)
  refine CallA.of pg ord16 Tryz.func16 rfl Tryz.ntmps16 Tryz.results16 rfl fun h0 G0 O0 => ?_
  repeat' (first|refine Sp.h ?_|refine Lk.r rfl ?_|refine Rf.mk rfl ?_|(apply TkB.r;(focus repeat first|exact .here|apply Take.there))|fail)
  (refine Cl.use (h1) (by repeat' (first|exact Lend.nil|apply Lend.keep|fail)) .nil rfl ?_;rintro _ _ ⟨_, rfl, rfl⟩)
  repeat' (first|refine Sp.h ?_|refine Lk.r rfl ?_|(apply Nm.r;focus repeat first|apply LN.cons|exact LN.nil)|fail)
  exact ⟨_, _, .one (.same (.nil (by (repeat first|exact .nil|refine .cons (by repeat first|exact .here|apply Take.there) ?_)))), _, rfl, rfl⟩
theorem sclock_p (h : w.clock.length ≤ 100000) : CallA Tryz.prog 16 [pm s] [stoR s m b v w] fun r own => r = ints w.clock ∧ own = [stoR s m b v w] :=
  CallA.fxr (sclock_a s m b v w h) (by rintro _ _ ⟨u, rfl, rfl⟩;exact ⟨_, _, FX.s1 .here (by omega) .nil, rfl, rfl⟩)
theorem sstate_a (h : w.state.length ≤ 100000) : CallA Tryz.prog 52 [pm s] [stoR s m b v w] fun r own => ∃ u, r = .ow u ∧ own = [arrR u 3 1 w.state intC, stoR s m b v w] := by
  have h1 := clone_o w.state (by omega)
  refine CallA.of pg ord52 Tryz.func52 rfl Tryz.ntmps52 Tryz.results52 rfl fun h0 G0 O0 => ?_
  repeat' (first|refine Sp.h ?_|refine Lk.r rfl ?_|refine Rf.mk rfl ?_|(apply TkB.r;(focus repeat first|exact .here|apply Take.there))|fail)
  (refine Cl.use (h1) (by repeat' (first|exact Lend.nil|apply Lend.keep|fail)) .nil rfl ?_;rintro _ _ ⟨_, rfl, rfl⟩)
  repeat' (first|refine Sp.h ?_|refine Lk.r rfl ?_|(apply Nm.r;focus repeat first|apply LN.cons|exact LN.nil)|fail)
  exact ⟨_, _, .one (.same (.nil (by (repeat first|exact .nil|refine .cons (by repeat first|exact .here|apply Take.there) ?_)))), _, rfl, rfl⟩
theorem sstate_p (h : w.state.length ≤ 100000) : CallA Tryz.prog 52 [pm s] [stoR s m b v w] fun r own => r = ints w.state ∧ own = [stoR s m b v w] :=
  CallA.fxr (sstate_a s m b v w h) (by rintro _ _ ⟨u, rfl, rfl⟩;exact ⟨_, _, FX.s1 .here (by omega) .nil, rfl, rfl⟩)
theorem splaces_a (h : w.places.length ≤ 100000) : CallA Tryz.prog 65 [pm s] [stoR s m b v w] fun r own => ∃ u, r = .ow u ∧ own = [arrR u 3 1 w.places intC, stoR s m b v w] := by
  have h1 := clone_o w.places (by omega)
  refine CallA.of pg ord65 Tryz.func65 rfl Tryz.ntmps65 Tryz.results65 rfl fun h0 G0 O0 => ?_
  repeat' (first|refine Sp.h ?_|refine Lk.r rfl ?_|refine Rf.mk rfl ?_|(apply TkB.r;(focus repeat first|exact .here|apply Take.there))|fail)
  (refine Cl.use (h1) (by repeat' (first|exact Lend.nil|apply Lend.keep|fail)) .nil rfl ?_;rintro _ _ ⟨_, rfl, rfl⟩)
  repeat' (first|refine Sp.h ?_|refine Lk.r rfl ?_|(apply Nm.r;focus repeat first|apply LN.cons|exact LN.nil)|fail)
  exact ⟨_, _, .one (.same (.nil (by (repeat first|exact .nil|refine .cons (by repeat first|exact .here|apply Take.there) ?_)))), _, rfl, rfl⟩
theorem splaces_p (h : w.places.length ≤ 100000) : CallA Tryz.prog 65 [pm s] [stoR s m b v w] fun r own => r = ints w.places ∧ own = [stoR s m b v w] :=
  CallA.fxr (splaces_a s m b v w h) (by rintro _ _ ⟨u, rfl, rfl⟩;exact ⟨_, _, FX.s1 .here (by omega) .nil, rfl, rfl⟩)
theorem stime_p : CallA Tryz.prog 17 [pm s] [stoR s m b v w] fun r own => r = it w.time ∧ own = [stoR s m b v w] := by
  refine CallA.of pg ord17 Tryz.func17 rfl Tryz.ntmps17 Tryz.results17 rfl fun h0 G0 O0 => ?_
  repeat' (first|refine Sp.h ?_|refine Lk.r rfl ?_|refine Rf.mk rfl ?_|(apply TkB.r;(focus repeat first|exact .here|apply Take.there))|(apply Nm.r;focus repeat first|apply LN.cons|exact LN.nil)|fail)
  exact ⟨_, _, .one (.same (.nil (by (repeat first|exact .nil|refine .cons (by repeat first|exact .here|apply Take.there) ?_)))), rfl, rfl⟩
theorem sbase_p (h : SzN b) : CallA Tryz.prog 35 [pm s] [stoR s m b v w] fun r own => r = basA b ∧ own = [stoR s m b v w] := by
  have h1 := cloneBase_p b nl0 nl0 h
  refine CallA.of pg ord35 Tryz.func35 rfl Tryz.ntmps35 Tryz.results35 rfl fun h0 G0 O0 => ?_
  repeat' (first|refine Sp.h ?_|refine Lk.r rfl ?_|refine Rf.mk rfl ?_|(refine All.mk ?_;intro _)|(apply TkB.r;(focus repeat first|exact .here|apply Take.there))|refine Ch.r ?_|(apply SetAsk.r;(focus (repeat (first|exact SetAs.z|(apply SetAs.c;(focus (repeat first|assumption|exact SetA.z|apply SetA.s)))))))|(apply Nm.r;focus repeat first|apply LN.cons|exact LN.nil)|(apply Cl.p (h1);(focus repeat' (first|exact Lend.nil|apply Lend.keep|fail))))
  exact ⟨_, _, .one (.same (.nil (by (repeat first|exact .nil|refine .cons (by repeat first|exact .here|apply Take.there) ?_)))), rfl, rfl⟩
theorem cloneEsOwn_a (l : List EvS) (hl : l.length ≤ 1000000) (hm : ∀ e ∈ l, e.past.length ≤ 1000000) {Γ : Cx} (hP : Γ.P = Tryz.prog) {c : Cls} {o : List Res} {u : Value} {M : AV → List Res → Prop} {rest : List Res} (tk : Take o (arrR u 37 13 l evC) rest) (hm2 : ∀ v L, L.map EvE.e = l → M (.ow v) (outE v L ++ o)) : Cl Γ c 95 [.ow u] o M := by
  refine Cl.lendO (K := fun r own => ∃ v L, r = .ow v ∧ L.map EvE.e = l ∧ own = outE v L) (by rw [hP];exact cloneEs_a l hl hm) (Lend.lend tk (by omega) .nil) ?_ ?_
  · rintro _ _ ⟨v, L, rfl, _, rfl⟩
    refine ⟨FlatV.ow _, fun R hR => ?_⟩
    rcases List.mem_cons.1 hR with rfl|hR
    · exact FlatR.arr fun x _ => .cons (.val _) (.cons (.val _) (.cons (.val _) (.cons (.ow _) (.cons (.val _) (.cons (.val _) (.cons (.val _) (.cons (.val _) (.cons (.val _) (.cons (.val _) (.cons (.val _) (.cons (.val _) (.cons (.val _) .nil))))))))))))
    · rw [List.mem_singleton.1 hR]
      refine FlatR.bun fun R hR => ?_
      obtain ⟨x, _, rfl⟩ := List.mem_map.1 hR
      exact FlatR.arr fun y _ => .cons (.val _) .nil
  · rintro _ _ ⟨v, L, rfl, hL, rfl⟩
    exact hm2 v L hL
theorem sevents_a (l : List EvS) (hl : l.length ≤ 1000000) (hm : ∀ e ∈ l, e.past.length ≤ 1000000) : CallA Tryz.prog 63 [pm s] [stoR s m b v w, arrR v 37 13 l evC] fun r own => ∃ u L, r = .ow u ∧ L.map EvE.e = l ∧ own = outE u L ++ [stoR s m b v w, arrR v 37 13 l evC] := by
  refine CallA.of pg ord63 Tryz.func63 rfl Tryz.ntmps63 Tryz.results63 rfl fun h0 G0 O0 => ?_
  repeat' (first|refine Sp.h ?_|refine Lk.r rfl ?_|refine Rf.mk rfl ?_|(apply TkB.r;(focus repeat first|exact .here|apply Take.there))|fail)
  refine cloneEsOwn_a l hl hm rfl (by (repeat first|exact .here|apply Take.there)) fun u L hL => ?_
  repeat' (first|refine Sp.h ?_|refine Lk.r rfl ?_|(apply Nm.r;focus repeat first|apply LN.cons|exact LN.nil)|fail)
  exact ⟨_, _, .one (.same (.nil (by (repeat first|exact .nil|refine .cons (by repeat first|exact .here|apply Take.there) ?_)))), _, L, rfl, hL, rfl⟩
theorem sevents_p (l : List EvS) (hl : l.length ≤ 1000000) (hm : ∀ e ∈ l, e.past.length ≤ 1000000) : CallA Tryz.prog 63 [pm s] [stoR s m b v w, arrR v 37 13 l evC] fun r own => r = evs l ∧ own = [stoR s m b v w, arrR v 37 13 l evC] :=
  CallA.fxr (sevents_a s m b v w l hl hm) (by
    rintro _ _ ⟨u, L, rfl, hL, rfl⟩
    refine ⟨evs (L.map EvE.e), _, outE_fx (by have := congrArg List.length hL;simp at this;omega) (fun x hx => hm x.e (by rw [← hL];exact List.mem_map_of_mem hx)) .nil, by rw [hL], rfl⟩)
theorem svalues_p (hm : MOK m) : CallA Tryz.prog 62 [pm s] [stoR s m b v w] fun r own => r = clks (valuesQ m w.merged).2 ∧ own = [stoR s m b v w] := by
  have h1 := valuesQ_p m w.merged hm
  refine CallA.of pg ord62 Tryz.func62 rfl Tryz.ntmps62 Tryz.results62 rfl fun h0 G0 O0 => ?_
  repeat' (first|refine Sp.h ?_|refine Lk.r rfl ?_|refine Rf.mk rfl ?_|refine OpK.r rfl ?_|(apply TkB.r;(focus repeat first|exact .here|apply Take.there))|refine Ch.r ?_|(apply Nm.r;focus repeat first|apply LN.cons|exact LN.nil)|(apply CA.draw;(focus rfl);(focus kernel_rfl);(focus kernel_rfl);(focus repeat' (first|apply ON.one|exact ON.done|exact ON.none|apply ON.alt));(focus rfl))|(apply Cl.p (h1);(focus repeat' (first|exact Lend.nil|apply Lend.keep|fail))))
  exact ⟨_, _, .one (.same (.nil (by (repeat first|exact .nil|refine .cons (by repeat first|exact .here|apply Take.there) ?_)))), rfl, rfl⟩
abbrev stoV (m : ModS) (b : NowS) (l : List EvS) (w : NowS) : List AV := [ints m.sorts, tbls m.tables, .sl 1 m.families strC, .sl 6 m.cons cnsC, .sl 3 m.ops opC, .sl 5 m.acts actC, .sl 3 m.hides updC, ints b.clock, it b.time, ints b.state, mgs b.merged, nl0, nl0, ints b.places, evs l, ints w.clock, it w.time, ints w.state, mgs w.merged, ints w.places]
theorem sevents_r (l : List EvS) (hl : l.length ≤ 1000000) (hm : ∀ e ∈ l, e.past.length ≤ 1000000) : CallA Tryz.prog 63 [.ad (stoV m b l w) 0] [] fun r own => ∃ u L, r = .ow u ∧ L.map EvE.e = l ∧ own = outE u L := by
  have h := cloneEs_a l hl hm
  refine CallA.of pg ord63 Tryz.func63 rfl Tryz.ntmps63 Tryz.results63 rfl fun h0 G0 O0 => ?_
  repeat' (first|refine Sp.h ?_|refine Lk.r rfl ?_|refine Rf.mk rfl ?_|fail)
  (apply Cl.use (h);(focus repeat' (first|exact Lend.nil|apply Lend.keep|fail));(focus (repeat (first|exact Takes.nil|(apply Takes.cons;(focus repeat first|exact .here|apply Take.there)))));(focus rfl))
  rintro _ _ ⟨u, L, rfl, hL, rfl⟩
  repeat' (first|refine Sp.h ?_|refine Lk.r rfl ?_|(apply Nm.r;focus repeat first|apply LN.cons|exact LN.nil)|fail)
  exact ⟨_, _, .one (.same (.nil (by (repeat first|exact .nil|refine .cons (by repeat first|exact .here|apply Take.there) ?_)))), u, L, rfl, hL, rfl⟩
theorem sclock_r (l : List EvS) (h : w.clock.length ≤ 100000) : CallO Tryz.prog 16 [.ad (stoV m b l w) 0] 3 1 w.clock intC := by
  have h1 := clone_o w.clock (by omega)
  refine CallA.of pg ord16 Tryz.func16 rfl Tryz.ntmps16 Tryz.results16 rfl fun h0 G0 O0 => ?_
  repeat' (first|refine Sp.h ?_|refine Lk.r rfl ?_|refine Rf.mk rfl ?_|fail)
  (refine Cl.use (h1) (by repeat' (first|exact Lend.nil|apply Lend.keep|fail)) .nil rfl ?_;rintro _ _ ⟨_, rfl, rfl⟩)
  repeat' (first|refine Sp.h ?_|refine Lk.r rfl ?_|(apply Nm.r;focus repeat first|apply LN.cons|exact LN.nil)|fail)
  exact ⟨_, _, .one (.same (.nil (by (repeat first|exact .nil|refine .cons (by repeat first|exact .here|apply Take.there) ?_)))), _, rfl, rfl⟩
theorem sevents_z (l : List EvS) (hl : l.length ≤ 1000000) (hm : ∀ e ∈ l, e.past.length ≤ 1000000) : CallP Tryz.prog 63 [.ad (stoV m b l w) 0] (evs l) := by
  refine CallA.fx (sevents_r m b w l hl hm) ?_
  rintro _ _ ⟨u, L, rfl, hL, rfl⟩
  have h := outE_fx (v := u) (L := L) (o := []) (by have := congrArg List.length hL;simp at this;omega) (fun x hx => hm x.e (by rw [← hL];exact List.mem_map_of_mem hx)) .nil
  rw [hL] at h
  simpa using h
theorem sclock_z (l : List EvS) (h : w.clock.length ≤ 100000) : CallP Tryz.prog 16 [.ad (stoV m b l w) 0] (ints w.clock) := CallA.fz (by omega) (sclock_r m b w l h)
theorem sbase_r (l : List EvS) (h : SzN b) : CallP Tryz.prog 35 [.ad (stoV m b l w) 0] (basA b) := by
  have h1 := cloneBase_p b nl0 nl0 h
  refine CallA.of pg ord35 Tryz.func35 rfl Tryz.ntmps35 Tryz.results35 rfl fun h0 G0 O0 => ?_
  repeat' (first|refine Sp.h ?_|refine Lk.r rfl ?_|refine Rf.mk rfl ?_|(refine All.mk ?_;intro _)|(apply TkB.r;(focus repeat first|exact .here|apply Take.there))|refine Ch.r ?_|(apply SetAsk.r;(focus (repeat (first|exact SetAs.z|(apply SetAs.c;(focus (repeat first|assumption|exact SetA.z|apply SetA.s)))))))|(apply Nm.r;focus repeat first|apply LN.cons|exact LN.nil)|(apply Cl.p (h1);(focus repeat' (first|exact Lend.nil|apply Lend.keep|fail))))
  exact Fin.p rfl rfl
end
theorem flat_ints {u : Value} {l : List Int} : FlatR (arrR u 3 1 l intC) := FlatR.arr fun _ _ => .cons (.val _) .nil
def ev0 : EvS := ⟨0, 0, 0, [], 0, 0, 0, 0, 0, 0, 0, 0, 0⟩
def mkN (w : NowS) (r : Int) (x : EvS) : EvS := ⟨r, (w.clock[r.toNat]?.getD 0) + 1, w.time + 1, w.clock, x.kind, x.action, x.gk, x.gi, x.ge, x.ga, x.to, x.place, x.serial⟩
noncomputable def makeF (m : ModS) (w : NowS) (r : Int) (x : EvS) : Int × EvS :=
  if r < 0 ∨ (w.clock.length : Int) ≤ r then (2, ev0)
  else if 1024 ≤ w.clock[r.toNat]?.getD 0 ∨ 1073741824 ≤ w.time then (8, ev0)
  else if ¬ EvV m (w.clock.length : Nat) (mkN w r x) then (1, ev0)
  else (0, mkN w r x)
set_option maxHeartbeats 4000000 in
theorem smake_a (s : Nat) (m : ModS) (b : NowS) (v : Value) (w : NowS) (r : Int) (x : EvS) (hc : w.clock.length ≤ 5) (hb : ∀ y ∈ w.clock, -1000000 ≤ y) (ht : -1000000 ≤ w.time) :
    CallA Tryz.prog 18 [pm s, it r, evA' x] [stoR s m b v w] fun q own => q = .tup [evA' (makeF m w r x).2, it (makeF m w r x).1] ∧ own = [stoR s m b v w] := by
  have hcl := clone_z w.clock (by omega)
  have hz : ∀ e, CallA Tryz.prog 18 [pm s, it r, evA' x] [stoR s m b v w] (fun q own => q = .tup [.agg [it 0, it 0, it 0, nl0, it 0, it 0, it 0, it 0, it 0, it 0, it 0, it 0, it 0], it e] ∧ own = [stoR s m b v w]) → CallA Tryz.prog 18 [pm s, it r, evA' x] [stoR s m b v w] fun q own => q = .tup [evA' ev0, it e] ∧ own = [stoR s m b v w] := fun e h =>
    CallA.fxr h (by
      rintro _ _ ⟨rfl, rfl⟩
      refine ⟨.tup [evA' ev0, it e], [stoR s m b v w], .tup (.agg ?_ (FX.refl _)) .nil, rfl, rfl⟩
      exact FX.k (FX.k (FX.k (FX.kn (FX.refl _)))))
  by_cases h1 : r < 0 ∨ (w.clock.length : Int) ≤ r
  · rw [makeF, if_pos h1]
    refine hz 2 ?_
    refine CallA.of pg ord18 Tryz.func18 rfl Tryz.ntmps18 Tryz.results18 rfl fun h0 G0 O0 => ?_
    rcases h1 with h1|h1
    all_goals repeat' (first|refine Sp.h ?_|refine Lk.r rfl ?_|refine Rf.mk rfl ?_|(apply Bd.t;(focus first|assumption|omega|rfl))|(apply Bd.f;(focus first|assumption|omega|exact Bool.false_ne_true))|(refine Im.mk ?_;intro _)|(refine All.mk ?_;intro _)|(apply TkB.r;(focus repeat first|exact .here|apply Take.there))|(apply SetAsk.r;(focus (repeat (first|exact SetAs.z|(apply SetAs.c;(focus (repeat first|assumption|exact SetA.z|apply SetA.s)))))))|(apply Fk.r;(focus (repeat (first|exact FillA.nil|(apply FillA.agg;(focus rfl);(focus rfl);(focus (repeat (first|exact SetAs.z|(apply SetAs.c;(focus (repeat first|assumption|exact SetA.z|apply SetA.s)))))))|(apply FillA.one;(focus rfl);(focus infer_instance);(focus (repeat first|assumption|exact SetA.z|apply SetA.s)))))))|(apply Nm.r;focus repeat first|apply LN.cons|exact LN.nil)|fail)
    all_goals exact ⟨_, _, .tup (.same (.same (.nil (by (repeat first|exact .nil|refine .cons (by repeat first|exact .here|apply Take.there) ?_))))), rfl, rfl⟩
  obtain ⟨y, hy⟩ := get_of (l := w.clock) (i := r.toNat) (by omega)
  have hyb := hb y (List.mem_of_getElem? hy)
  have hev := evalid_p m (w.clock.length : Nat) (mkN w r x)
  have hmk : mkN w r x = ⟨r, y + 1, w.time + 1, w.clock, x.kind, x.action, x.gk, x.gi, x.ge, x.ga, x.to, x.place, x.serial⟩ := by rw [mkN, hy];rfl
  rw [makeF, if_neg h1, hy, Option.getD_some]
  by_cases h2 : 1024 ≤ y ∨ 1073741824 ≤ w.time
  · rw [if_pos h2]
    refine hz 8 ?_
    refine CallA.of pg ord18 Tryz.func18 rfl Tryz.ntmps18 Tryz.results18 rfl fun h0 G0 O0 => ?_
    by_cases h3 : 1024 ≤ y
    · repeat' (first|refine Sp.h ?_|refine Lk.r rfl ?_|refine Rf.mk rfl ?_|(apply Bd.t;(focus first|assumption|omega|rfl))|(apply Bd.f;(focus first|assumption|omega|exact Bool.false_ne_true))|(refine Im.mk ?_;intro _)|(refine All.mk ?_;intro _)|(apply TkB.r;(focus repeat first|exact .here|apply Take.there))|(apply Ix.r;(focus assumption);(focus omega))|(apply SetAsk.r;(focus (repeat (first|exact SetAs.z|(apply SetAs.c;(focus (repeat first|assumption|exact SetA.z|apply SetA.s)))))))|(apply Fk.r;(focus (repeat (first|exact FillA.nil|(apply FillA.agg;(focus rfl);(focus rfl);(focus (repeat (first|exact SetAs.z|(apply SetAs.c;(focus (repeat first|assumption|exact SetA.z|apply SetA.s)))))))|(apply FillA.one;(focus rfl);(focus infer_instance);(focus (repeat first|assumption|exact SetA.z|apply SetA.s)))))))|(apply Nm.r;focus repeat first|apply LN.cons|exact LN.nil)|fail)
      exact ⟨_, _, .tup (.same (.same (.nil (by (repeat first|exact .nil|refine .cons (by repeat first|exact .here|apply Take.there) ?_))))), rfl, rfl⟩
    · have h4 : 1073741824 ≤ w.time := by omega
      repeat' (first|refine Sp.h ?_|refine Lk.r rfl ?_|refine Rf.mk rfl ?_|(apply Bd.t;(focus first|assumption|omega|rfl))|(apply Bd.f;(focus first|assumption|omega|exact Bool.false_ne_true))|(refine Im.mk ?_;intro _)|(refine All.mk ?_;intro _)|(apply TkB.r;(focus repeat first|exact .here|apply Take.there))|(apply Ix.r;(focus assumption);(focus omega))|(apply SetAsk.r;(focus (repeat (first|exact SetAs.z|(apply SetAs.c;(focus (repeat first|assumption|exact SetA.z|apply SetA.s)))))))|(apply Fk.r;(focus (repeat (first|exact FillA.nil|(apply FillA.agg;(focus rfl);(focus rfl);(focus (repeat (first|exact SetAs.z|(apply SetAs.c;(focus (repeat first|assumption|exact SetA.z|apply SetA.s)))))))|(apply FillA.one;(focus rfl);(focus infer_instance);(focus (repeat first|assumption|exact SetA.z|apply SetA.s)))))))|(apply Nm.r;focus repeat first|apply LN.cons|exact LN.nil)|fail)
      exact ⟨_, _, .tup (.same (.same (.nil (by (repeat first|exact .nil|refine .cons (by repeat first|exact .here|apply Take.there) ?_))))), rfl, rfl⟩
  rw [if_neg h2]
  by_cases h3 : EvV m (w.clock.length : Nat) (mkN w r x)
  · rw [if_neg (fun h => h h3)]
    rw [decide_eq_true h3] at hev
    rw [hmk] at hev ⊢
    refine CallA.of pg ord18 Tryz.func18 rfl Tryz.ntmps18 Tryz.results18 rfl fun h0 G0 O0 => ?_
    repeat' (first|refine Sp.h ?_|refine Lk.r rfl ?_|refine Rf.mk rfl ?_|(apply Bd.t;(focus first|assumption|omega|rfl))|(apply Bd.f;(focus first|assumption|omega|exact Bool.false_ne_true))|refine OpK.r rfl ?_|(refine Im.mk ?_;intro _)|(refine All.mk ?_;intro _)|(apply TkB.r;(focus repeat first|exact .here|apply Take.there))|(apply Ix.r;(focus assumption);(focus omega))|refine Ch.l ⟨rfl, rfl⟩ ?_|refine Ch.r ?_|(apply SetAsk.r;(focus (repeat (first|exact SetAs.z|(apply SetAs.c;(focus (repeat first|assumption|exact SetA.z|apply SetA.s)))))))|(apply Fk.r;(focus (repeat (first|exact FillA.nil|(apply FillA.agg;(focus rfl);(focus rfl);(focus (repeat (first|exact SetAs.z|(apply SetAs.c;(focus (repeat first|assumption|exact SetA.z|apply SetA.s)))))))|(apply FillA.one;(focus rfl);(focus infer_instance);(focus (repeat first|assumption|exact SetA.z|apply SetA.s)))))))|(apply Nm.r;focus repeat first|apply LN.cons|exact LN.nil)|(apply CA.draw;(focus rfl);(focus kernel_rfl);(focus kernel_rfl);(focus repeat' (first|apply ON.one|exact ON.done|exact ON.none|apply ON.alt));(focus rfl))|exact trivial|apply RA'.both|(apply Ov.n;(focus first|omega|(simp <;> omega)))|(apply Cl.p (hcl);(focus ((repeat' (first|exact Lend.nil|apply Lend.keep|fail));done)))|(apply Cl.p (hev);(focus ((repeat' (first|exact Lend.nil|apply Lend.keep|fail));done))))
    all_goals exact ⟨_, _, .tup (.same (.same (.nil (by (repeat first|exact .nil|refine .cons (by repeat first|exact .here|apply Take.there) ?_))))), rfl, rfl⟩
  · rw [if_pos h3]
    rw [decide_eq_false h3] at hev
    rw [hmk] at hev
    refine hz 1 ?_
    refine CallA.of pg ord18 Tryz.func18 rfl Tryz.ntmps18 Tryz.results18 rfl fun h0 G0 O0 => ?_
    repeat' (first|refine Sp.h ?_|refine Lk.r rfl ?_|refine Rf.mk rfl ?_|(apply Bd.f;(focus first|assumption|omega|exact Bool.false_ne_true))|refine OpK.r rfl ?_|(refine Im.mk ?_;intro _)|(refine All.mk ?_;intro _)|(apply TkB.r;(focus repeat first|exact .here|apply Take.there))|(apply Ix.r;(focus assumption);(focus omega))|refine Ch.l ⟨rfl, rfl⟩ ?_|refine Ch.r ?_|(apply SetAsk.r;(focus (repeat (first|exact SetAs.z|(apply SetAs.c;(focus (repeat first|assumption|exact SetA.z|apply SetA.s)))))))|(apply Fk.r;(focus (repeat (first|exact FillA.nil|(apply FillA.agg;(focus rfl);(focus rfl);(focus (repeat (first|exact SetAs.z|(apply SetAs.c;(focus (repeat first|assumption|exact SetA.z|apply SetA.s)))))))|(apply FillA.one;(focus rfl);(focus infer_instance);(focus (repeat first|assumption|exact SetA.z|apply SetA.s)))))))|(apply Nm.r;focus repeat first|apply LN.cons|exact LN.nil)|(apply CA.draw;(focus rfl);(focus kernel_rfl);(focus kernel_rfl);(focus repeat' (first|apply ON.one|exact ON.done|exact ON.none|apply ON.alt));(focus rfl))|exact trivial|apply RA'.both|(apply Ov.n;(focus first|omega|(simp <;> omega)))|(apply Cl.p (hcl);(focus ((repeat' (first|exact Lend.nil|apply Lend.keep|fail));done)))|(apply Cl.p (hev);(focus ((repeat' (first|exact Lend.nil|apply Lend.keep|fail));done))))
    all_goals exact ⟨_, _, .tup (.same (.same (.nil (by (repeat first|exact .nil|refine .cons (by repeat first|exact .here|apply Take.there) ?_))))), rfl, rfl⟩
end Go.Proofs.YtmllihbhphnolaaGreat
namespace Go.Proofs.YtmllihbhphnolaaGreat
open Go Go.CF
set_option maxRecDepth 20000
def cmpE (a b : EvS) : Int := orI [cmpI a.time b.time, cmpI a.rep b.rep, cmpI a.num b.num]
def LtE (a b : EvS) : Prop := a.time < b.time ∨ a.time = b.time ∧ (a.rep < b.rep ∨ a.rep = b.rep ∧ a.num < b.num)
noncomputable instance (a b : EvS) : Decidable (LtE a b) := Classical.propDecidable _
theorem cmpE_neg {a b : EvS} : cmpE a b < 0 ↔ LtE a b := cmpK_neg (a := ⟨a.rep, a.num, a.time, 0⟩) (b := ⟨b.rep, b.num, b.time, 0⟩)
theorem order1_p (a b : EvS) : CallP Tryz.prog 144 [evA' a, evA' b] (it (cmpE a b)) := by
  refine CallA.of pg ord144 Tryz.func144 rfl Tryz.ntmps144 Tryz.results144 rfl fun h0 G0 O0 => ?_
  repeat' (first|refine Sp.h ?_|refine Lk.r rfl ?_|refine Rf.mk rfl ?_|refine OpK.r rfl ?_|(refine All.mk ?_;intro _)|(apply TkB.r;(focus repeat first|exact .here|apply Take.there))|(apply Fk.r;(focus (repeat (first|exact FillA.nil|(apply FillA.agg;(focus rfl);(focus rfl);(focus (repeat (first|exact SetAs.z|(apply SetAs.c;(focus (repeat first|assumption|exact SetA.z|apply SetA.s)))))))|(apply FillA.one;(focus rfl);(focus infer_instance);(focus (repeat first|assumption|exact SetA.z|apply SetA.s)))))))|refine Rf.mk ⟨rfl, rfl, rfl⟩ ?_|(apply CA.draw;(focus rfl);(focus kernel_rfl);(focus kernel_rfl);(focus repeat' (first|apply ON.one|exact ON.done|exact ON.none|apply ON.alt));(focus rfl))|(apply Cl.p (compareI_p _ _);(focus repeat' (first|exact Lend.nil|apply Lend.keep|fail))))
  have h := orI_p [cmpI a.time b.time, cmpI a.rep b.rep, cmpI a.num b.num]
  (apply Cl.lend (h);(focus repeat' (first|exact Lend.nil|(apply Lend.lendm;(focus repeat first|exact .here|apply Take.there);(focus rfl);(focus first|omega|decide|(simp;omega)|exact Nat.le_of_ble_eq_true rfl))|fail)))
  repeat' (first|refine Sp.h ?_|refine Lk.r rfl ?_|refine OpK.r rfl ?_|(apply Nm.r;focus repeat first|apply LN.cons|exact LN.nil)|fail)
  exact Fin.p rfl rfl
abbrev SrtE (l : List EvS) : Prop := l.Pairwise fun a b => ¬ LtE b a
abbrev eR (v : Value) (L : List EvS) : Res := arrR v 37 13 L evC
theorem at_len {α : Type} {p : List α} {x : α} {q : List α} {i : Nat} (h : i = p.length) : (p ++ x :: q)[i]? = some x := by
  rw [h, List.getElem?_append_right (Nat.le_refl _), Nat.sub_self];rfl
theorem set_len {α : Type} {p : List α} {x y : α} {q : List α} {i : Nat} (h : i = p.length) : (p ++ x :: q).set i y = p ++ y :: q := by
  rw [h, List.set_append_right _ _ (Nat.le_refl _), Nat.sub_self];rfl
theorem swap_len {α : Type} {p : List α} {x y : α} {q : List α} {i : Nat} (h : i = p.length) : ((p ++ x :: y :: q).set i y).set (i + 1) x = p ++ y :: x :: q := by
  rw [set_len h]
  have : p ++ y :: y :: q = (p ++ [y]) ++ y :: q := by simp
  rw [this, set_len (by simp [h])]
  simp
theorem swap_len' {α : Type} {p : List α} {x y : α} {q : List α} {i : Nat} (h : i = p.length) : ((p ++ x :: y :: q).set (i + 1) x).set i y = p ++ y :: x :: q := by
  have : p ++ x :: y :: q = (p ++ [x]) ++ y :: q := by simp
  rw [this, set_len (by simp [h])]
  have : p ++ [x] ++ x :: q = p ++ x :: x :: q := by simp
  rw [this, set_len h]
theorem ne_snoc {α : Type} {l : List α} (h : l ≠ []) : ∃ m y, l = m ++ [y] := ⟨l.dropLast, l.getLast h, (List.dropLast_concat_getLast h).symm⟩
theorem srt_ins {S1 S2 : List EvS} {x : EvS} (h : SrtE (S1 ++ S2)) (h2 : ∀ s ∈ S2, LtE x s) (h1 : ∀ m y, S1 = m ++ [y] → ¬ LtE x y) : SrtE (S1 ++ x :: S2) := by
  obtain ⟨a1, a2, a3⟩ := List.pairwise_append.1 h
  refine List.pairwise_append.2 ⟨a1, List.pairwise_cons.2 ⟨fun s hs h9 => ?_, a2⟩, fun s hs t ht => ?_⟩
  · have := h2 s hs;unfold LtE at *;omega
  · rcases List.mem_cons.1 ht with e|ht
    · subst e
      by_cases hn : S1 = []
      · subst hn;cases hs
      · obtain ⟨m, y, rfl⟩ := ne_snoc hn
        have hy := h1 m y rfl
        rcases List.mem_append.1 hs with hs|hs
        · have := (List.pairwise_append.1 a1).2.2 s hs y (by simp)
          unfold LtE at *;omega
        · rw [List.mem_singleton.1 hs];exact hy
    · exact a3 s hs t ht
set_option maxHeartbeats 2000000 in
theorem insSort_a (v : Value) (L pre A post : List EvS) (a b : Int) (hL : L = pre ++ A ++ post) (ha : a = pre.length) (hb : b = pre.length + A.length) (hl : L.length ≤ 100000) :
    CallA Tryz.prog 266 [.ow v, it a, it b, .fn 144 []] [eR v L] fun r o => ∃ L' S, r = .tup [] ∧ o = [eR v L'] ∧ L' = pre ++ S ++ post ∧ A.Perm S ∧ SrtE S := by
  subst ha hb
  have hll : L.length = pre.length + A.length + post.length := by rw [hL];simp;omega
  refine CallA.of pg ord266 Tryz.func266 rfl Tryz.ntmps266 Tryz.results266 rfl fun h0 G0 O0 => ?_
  by_cases hA : A = []
  · subst hA
    repeat' (first|refine Sp.h ?_|refine Lk.r rfl ?_|refine Rf.mk rfl ?_|(apply Ov.n;(focus first|omega|(simp <;> omega)))|fail)
    refine CA.loop (fun _ : Unit => ⟨[(8, it ((pre.length : Int) + 1)), (2, it ((pre.length : Int) + ([] : List EvS).length))], [eR v L]⟩) (fun _ => True) (fun _ => 0) () ⟨by repeat first|trivial|refine ⟨rfl,?_⟩,by repeat first|exact .nil|refine .cons (by repeat first|exact .here|apply Take.there) ?_⟩ trivial ?_
    rintro ⟨⟩ -
    have h0 : (([] : List EvS).length : Int) = 0 := rfl
    repeat' (first|refine Sp.h ?_|refine Lk.r rfl ?_|refine Rf.mk rfl ?_|(apply Bd.f;(focus first|assumption|omega|exact Bool.false_ne_true))|(apply Nm.r;focus repeat first|apply LN.cons|exact LN.nil)|fail)
    exact ⟨_, _, .tup (.nil (by (repeat first|exact .nil|refine .cons (by repeat first|exact .here|apply Take.there) ?_))), L, [], rfl, rfl, by simpa using hL, List.Perm.refl _, List.Pairwise.nil⟩
  obtain ⟨x0, A', rfl⟩ := List.exists_cons_of_ne_nil hA
  have hbl : (pre.length : Int) + ((x0 :: A').length : Nat) = ((pre.length + (x0 :: A').length : Nat) : Int) := by omega
  rw [hbl]
  repeat' (first|refine Sp.h ?_|refine Lk.r rfl ?_|refine Rf.mk rfl ?_|(apply Ov.n;(focus first|omega|(simp <;> omega)))|fail)
  refine CA.loop (fun q : Nat × List EvS => ⟨[(0, .ow v), (1, it (pre.length : Nat)), (2, it ((pre.length + (x0 :: A').length : Nat) : Int)), (3, .fn 144 []), (8, it q.1)], [eR v q.2]⟩)
    (fun q => ∃ S R, q.1 = pre.length + S.length ∧ q.2 = pre ++ (S ++ R) ++ post ∧ SrtE S ∧ (x0 :: A').Perm (S ++ R)) (fun q => pre.length + (x0 :: A').length - q.1) (pre.length + 1, L) ⟨by repeat first|trivial|refine ⟨rfl,?_⟩,by repeat first|exact .nil|refine .cons (by repeat first|exact .here|apply Take.there) ?_⟩ ⟨[x0], A', rfl, by simpa using hL, by simp, List.Perm.refl _⟩ ?_
  rintro ⟨i, D⟩ ⟨S, R, h1, h2, h3, h4⟩
  simp only at h1 h2
  simp only
  have hpl := h4.length_eq
  rw [List.length_append] at hpl
  have hDl : D.length = L.length := by rw [h2];simp only [List.length_append] at hpl ⊢;rw [hll];omega
  by_cases hi : i < pre.length + (x0 :: A').length
  · have hR : R ≠ [] := fun h => by subst h;simp at hpl;simp at hi;omega
    obtain ⟨x, R', rfl⟩ := List.exists_cons_of_ne_nil hR
    repeat' (first|refine Sp.h ?_|refine Lk.r rfl ?_|refine Rf.mk rfl ?_|(apply Bd.t;(focus first|assumption|omega|rfl))|fail)
    refine CA.loop (fun q : Nat × List EvS => ⟨[(0, .ow v), (1, it (pre.length : Nat)), (2, it ((pre.length + (x0 :: A').length : Nat) : Int)), (3, .fn 144 []), (8, it i), (9, it q.1)], [eR v q.2]⟩)
      (fun q => ∃ S1 S2, q.1 = pre.length + S1.length ∧ q.2 = (pre ++ S1) ++ x :: (S2 ++ R' ++ post) ∧ SrtE (S1 ++ S2) ∧ S.Perm (S1 ++ S2) ∧ ∀ s ∈ S2, LtE x s) (fun q => q.1) (i, D) ⟨by repeat first|trivial|refine ⟨rfl,?_⟩,by repeat first|exact .nil|refine .cons (by repeat first|exact .here|apply Take.there) ?_⟩ ⟨S, [], h1, by simp only;rw [h2];simp, by simpa using h3, by simp, by simp⟩ ?_
    rintro ⟨j, E⟩ ⟨S1, S2, g1, g2, g3, g4, g5⟩
    simp only at g1 g2
    simp only
    have hpl2 := g4.length_eq
    rw [List.length_append] at hpl2
    have hEl : E.length = L.length := by rw [g2];simp only [List.length_append, List.length_cons] at hpl ⊢;rw [hll];simp only [List.length_cons];omega
    have hend : (∀ m y, S1 = m ++ [y] → ¬ LtE x y) → ∃ T Q, i + 1 = pre.length + T.length ∧ E = pre ++ (T ++ Q) ++ post ∧ SrtE T ∧ (x0 :: A').Perm (T ++ Q) := fun h =>
      ⟨S1 ++ x :: S2, R', by simp;omega, by rw [g2];simp, srt_ins g3 g5 h, h4.trans (by
        have e1 : S1 ++ x :: S2 ++ R' = S1 ++ (x :: (S2 ++ R')) := by simp
        have e2 : (S1 ++ (x :: (S2 ++ R'))).Perm (x :: (S1 ++ (S2 ++ R'))) := List.perm_middle
        rw [e1]
        refine List.Perm.trans ?_ e2.symm
        refine List.perm_middle.trans (List.Perm.cons x ?_)
        rw [← List.append_assoc]
        exact g4.append_right R')⟩
    by_cases hS : S1 = []
    · subst hS
      have hj : j = pre.length := by simpa using g1
      repeat' (first|refine Sp.h ?_|refine Lk.r rfl ?_|refine Rf.mk rfl ?_|(apply Bd.f;(focus first|assumption|omega|exact Bool.false_ne_true))|refine OpK.r rfl ?_|(apply CA.draw;(focus rfl);(focus kernel_rfl);(focus kernel_rfl);(focus repeat' (first|apply ON.one|exact ON.done|exact ON.none|apply ON.alt));(focus rfl))|(apply Ov.n;(focus first|omega|(simp <;> omega)))|(apply Cl.p (order1_p _ _);(focus repeat' (first|fail))))
      exact PA.lp (i + 1, E) ⟨by repeat first|trivial|refine ⟨rfl,?_⟩,by repeat first|exact .nil|refine .cons (by repeat first|exact .here|apply Take.there) ?_⟩ ⟨hend (fun m y h => by simp at h), by simp only;omega⟩
    · obtain ⟨m, y, rfl⟩ := ne_snoc hS
      obtain ⟨q, rfl⟩ : ∃ q, j = q + 1 := ⟨j - 1, by simp at g1;omega⟩
      have hq : q = (pre ++ m).length := by simp at g1 ⊢;omega
      have g2' : E = (pre ++ m) ++ y :: x :: (S2 ++ R' ++ post) := by rw [g2];simp
      have e1 : ((q + 1 : Nat) : Int) - 1 = (q : Nat) := by omega
      have hx : E[q + 1]? = some x := by
        rw [g2];exact at_len (by simp at g1 ⊢;omega)
      have hy : E[q]? = some y := by rw [g2'];exact at_len hq
      have hgt : (pre.length : Int) < ((q + 1 : Nat) : Int) := by simp at g1;omega
      have hcm := cmpE_neg (a := x) (b := y)
      by_cases hlt : LtE x y
      · have hc := hcm.2 hlt
        have hy2 : (E.set (q + 1) y)[q]? = some y := by rw [List.getElem?_set, if_neg (by omega), hy]
        repeat' (first|refine Sp.h ?_|refine Lk.r rfl ?_|refine Rf.mk rfl ?_|(apply Bd.t;(focus first|assumption|omega|rfl))|refine OpK.r rfl ?_|(apply TkA.r;(focus repeat first|exact .here|apply Take.there))|(apply Ix.q;(focus exact rfl);(focus assumption))|(apply Ix.r;(focus assumption);(focus omega))|(apply At.r;(focus assumption))|refine Ch.l ⟨rfl, rfl⟩ ?_|(apply SetAsk.r;(focus (repeat (first|exact SetAs.z|(apply SetAs.c;(focus (repeat first|assumption|exact SetA.z|apply SetA.s)))))))|refine Up.r rfl ?_|(apply CA.draw;(focus rfl);(focus kernel_rfl);(focus kernel_rfl);(focus repeat' (first|apply ON.one|exact ON.done|exact ON.none|apply ON.alt));(focus rfl))|(apply Ov.n;(focus first|omega|(simp <;> omega)))|(apply Cl.p (order1_p _ _);(focus repeat' (first|exact Lend.nil|apply Lend.keep|fail))))
        all_goals rw [e1]
        all_goals refine PA.lp (q, (E.set (q + 1) y).set q x) ⟨by repeat first|trivial|refine ⟨rfl,?_⟩,by repeat first|exact .nil|refine .cons (by repeat first|exact .here|apply Take.there) ?_⟩ ⟨⟨m, y :: S2, by simp at g1 ⊢;omega, by simp only;rw [g2', swap_len' hq];simp, by simpa using g3, g4.trans (by simp), fun s hs => ?_⟩, by simp only;omega⟩
        all_goals rcases List.mem_cons.1 hs with rfl|hs
        all_goals first|exact hlt|exact g5 s hs
      · have hc : ¬ cmpE x y < 0 := fun h => hlt (hcm.1 h)
        repeat' (first|refine Sp.h ?_|refine Lk.r rfl ?_|refine Rf.mk rfl ?_|(apply Bd.t;(focus first|assumption|omega|rfl))|(apply Bd.f;(focus first|assumption|omega|exact Bool.false_ne_true))|refine OpK.r rfl ?_|(apply TkA.r;(focus repeat first|exact .here|apply Take.there))|(apply Ix.q;(focus exact rfl);(focus assumption))|(apply Ix.r;(focus assumption);(focus omega))|(apply At.r;(focus assumption))|refine Ch.l ⟨rfl, rfl⟩ ?_|(apply CA.draw;(focus rfl);(focus kernel_rfl);(focus kernel_rfl);(focus repeat' (first|apply ON.one|exact ON.done|exact ON.none|apply ON.alt));(focus rfl))|(apply Ov.n;(focus first|omega|(simp <;> omega)))|(apply Cl.p (order1_p _ _);(focus repeat' (first|exact Lend.nil|apply Lend.keep|fail))))
        exact PA.lp (i + 1, E) ⟨by repeat first|trivial|refine ⟨rfl,?_⟩,by repeat first|exact .nil|refine .cons (by repeat first|exact .here|apply Take.there) ?_⟩ ⟨hend (fun m' y' h => by
          obtain ⟨-, h9⟩ := List.append_inj' h rfl
          cases h9;exact hlt), by simp only;omega⟩
  · have hR : R = [] := List.eq_nil_of_length_eq_zero (by simp at hpl hi;omega)
    subst hR
    repeat' (first|refine Sp.h ?_|refine Lk.r rfl ?_|refine Rf.mk rfl ?_|(apply Bd.f;(focus first|assumption|omega|exact Bool.false_ne_true))|(apply Nm.r;focus repeat first|apply LN.cons|exact LN.nil)|fail)
    exact ⟨_, _, .tup (.nil (by (repeat first|exact .nil|refine .cons (by repeat first|exact .here|apply Take.there) ?_))), D, S, rfl, rfl, by rw [h2];simp, by simpa using h4, h3⟩
end Go.Proofs.YtmllihbhphnolaaGreat
namespace Go.Proofs.YtmllihbhphnolaaGreat
open Go Go.CF
set_option maxRecDepth 20000
set_option maxHeartbeats 2000000 in
theorem swapRange_n (v : Value) (L p U M V q : List EvS) (a b n : Nat) (hL : L = p ++ (U ++ (M ++ (V ++ q)))) (ha : a = p.length) (hb : b = p.length + U.length + M.length) (hn : n = U.length) (hv : V.length = U.length) (hl : L.length ≤ 100000) :
    CallA Tryz.prog 297 [.ow v, it a, it b, it n, .fn 144 []] [eR v L] fun r o => r = .tup [] ∧ o = [eR v (p ++ (V ++ (M ++ (U ++ q))))] := by
  have hll : L.length = p.length + U.length + M.length + V.length + q.length := by rw [hL];simp;omega
  refine CallA.of pg ord297 Tryz.func297 rfl Tryz.ntmps297 Tryz.results297 rfl fun h0 G0 O0 => ?_
  repeat' (first|refine Sp.h ?_|refine Lk.r rfl ?_|refine Rf.mk rfl ?_|fail)
  refine CA.loop (fun s : Nat × List EvS => ⟨[(0, .ow v), (1, it a), (2, it b), (3, it n), (10, it s.1)], [eR v s.2]⟩)
    (fun s => ∃ U1 U2 V1 V2, U = U1 ++ U2 ∧ V = V1 ++ V2 ∧ U1.length = s.1 ∧ V1.length = s.1 ∧ s.2 = p ++ (V1 ++ (U2 ++ (M ++ (U1 ++ (V2 ++ q)))))) (fun s => n - s.1) (0, L) ⟨by repeat first|trivial|refine ⟨rfl,?_⟩,by repeat first|exact .nil|refine .cons (by repeat first|exact .here|apply Take.there) ?_⟩ ⟨[], U, [], V, rfl, rfl, rfl, rfl, by simpa using hL⟩ ?_
  rintro ⟨i, D⟩ ⟨U1, U2, V1, V2, h1, h2, h3, h4, h5⟩
  simp only at h3 h4 h5
  simp only
  have k1 := congrArg List.length h1
  have k2 := congrArg List.length h2
  rw [List.length_append] at k1 k2
  have hDl : D.length = L.length := by rw [h5, hll];simp only [List.length_append];omega
  by_cases hi : i < n
  · obtain ⟨x, U3, rfl⟩ := List.exists_cons_of_ne_nil (l := U2) (fun h => by subst h;simp at k1;omega)
    obtain ⟨y, V3, rfl⟩ := List.exists_cons_of_ne_nil (l := V2) (fun h => by subst h;simp at k2;omega)
    have f1 : D = (p ++ V1) ++ x :: (U3 ++ (M ++ (U1 ++ (y :: V3 ++ q)))) := by rw [h5];simp
    have f2 : D = (p ++ V1 ++ x :: U3 ++ M ++ U1) ++ y :: (V3 ++ q) := by rw [h5];simp
    have i1 : a + i = (p ++ V1).length := by rw [List.length_append];omega
    have i2 : b + i = (p ++ V1 ++ x :: U3 ++ M ++ U1).length := by simp at k1 ⊢;omega
    have hne : a + i < b + i := by simp at k1;omega
    have hx : D[a + i]? = some x := by rw [f1];exact at_len i1
    have hy : D[b + i]? = some y := by rw [f2];exact at_len i2
    have hy2 : (D.set (a + i) y)[b + i]? = some y := by rw [List.getElem?_set, if_neg (by omega), hy]
    have hlen1 : a + i < D.length := (List.getElem?_eq_some_iff.1 hx).1
    have hlen2 : b + i < D.length := (List.getElem?_eq_some_iff.1 hy).1
    have hset : (D.set (a + i) y).set (b + i) x = p ++ ((V1 ++ [y]) ++ (U3 ++ (M ++ ((U1 ++ [x]) ++ (V3 ++ q))))) := by
      rw [f1, set_len i1]
      have : (p ++ V1) ++ y :: (U3 ++ (M ++ (U1 ++ (y :: V3 ++ q)))) = (p ++ V1 ++ y :: U3 ++ M ++ U1) ++ y :: (V3 ++ q) := by simp
      rw [this, set_len (by simp at i2 ⊢;omega)]
      simp
    repeat' (first|refine Sp.h ?_|refine Lk.r rfl ?_|refine Rf.mk rfl ?_|(apply Bd.t;(focus first|assumption|omega|rfl))|refine OpK.r rfl ?_|(apply TkA.r;(focus repeat first|exact .here|apply Take.there))|(apply Ix.q;(focus exact rfl);(focus assumption))|(apply At.r;(focus assumption))|refine Ch.l ⟨rfl, rfl⟩ ?_|(apply SetAsk.r;(focus (repeat (first|exact SetAs.z|(apply SetAs.c;(focus (repeat first|assumption|exact SetA.z|apply SetA.s)))))))|refine Up.r rfl ?_|(apply CA.draw;(focus rfl);(focus kernel_rfl);(focus kernel_rfl);(focus repeat' (first|apply ON.one|exact ON.done|exact ON.none|apply ON.alt));(focus rfl))|(apply Ov.n;(focus first|omega|(simp <;> omega)))|fail)
    all_goals exact PA.lp (i + 1, (D.set (a + i) y).set (b + i) x) ⟨by repeat first|trivial|refine ⟨rfl,?_⟩,by repeat first|exact .nil|refine .cons (by repeat first|exact .here|apply Take.there) ?_⟩ ⟨⟨U1 ++ [x], U3, V1 ++ [y], V3, by simp [h1], by simp [h2], by simp [h3], by simp [h4], hset⟩, by simp only;omega⟩
  · have e1 : U2 = [] := List.eq_nil_of_length_eq_zero (by omega)
    have e2 : V2 = [] := List.eq_nil_of_length_eq_zero (by omega)
    subst e1 e2
    rw [List.append_nil] at h1 h2
    subst h1 h2
    have h5 : D = p ++ (V ++ (M ++ (U ++ q))) := by rw [h5];simp
    repeat' (first|refine Sp.h ?_|refine Lk.r rfl ?_|refine Rf.mk rfl ?_|(apply Bd.f;(focus first|assumption|omega|exact Bool.false_ne_true))|(apply Nm.r;focus repeat first|apply LN.cons|exact LN.nil)|fail)
    exact ⟨_, [eR v D], .tup (.nil (by (repeat first|exact .nil|refine .cons (by repeat first|exact .here|apply Take.there) ?_))), rfl, by rw [h5]⟩
theorem swapRange_a (v : Value) (L p U M V q : List EvS) (a b n : Int) (hL : L = p ++ (U ++ (M ++ (V ++ q)))) (ha : a = p.length) (hb : b = p.length + U.length + M.length) (hn : n = U.length) (hv : V.length = U.length) (hl : L.length ≤ 100000) :
    CallA Tryz.prog 297 [.ow v, it a, it b, it n, .fn 144 []] [eR v L] fun r o => r = .tup [] ∧ o = [eR v (p ++ (V ++ (M ++ (U ++ q))))] := by
  obtain ⟨A, rfl⟩ : ∃ A : Nat, a = A := ⟨_, ha⟩
  obtain ⟨B, rfl⟩ : ∃ B : Nat, b = B := ⟨p.length + U.length + M.length, by omega⟩
  obtain ⟨N, rfl⟩ : ∃ N : Nat, n = N := ⟨_, hn⟩
  exact swapRange_n v L p U M V q A B N hL (by omega) (by omega) (by omega) hv hl
theorem split_at {α : Type} (l : List α) (n : Nat) (h : n ≤ l.length) : ∃ a b, l = a ++ b ∧ a.length = n := ⟨l.take n, l.drop n, (List.take_append_drop n l).symm, by simp [h]⟩
set_option maxHeartbeats 2000000 in
theorem rotate_n (v : Value) (L p U V q : List EvS) (a m b : Nat) (hL : L = p ++ (U ++ (V ++ q))) (ha : a = p.length) (hm : m = p.length + U.length) (hb : b = p.length + U.length + V.length) (hu : 0 < U.length) (hv : 0 < V.length) (hl : L.length ≤ 100000) :
    CallA Tryz.prog 288 [.ow v, it a, it m, it b, .fn 144 []] [eR v L] fun r o => r = .tup [] ∧ o = [eR v (p ++ (V ++ (U ++ q)))] := by
  have hll : L.length = p.length + U.length + V.length + q.length := by rw [hL];simp;omega
  have z1 : ((m : Nat) : Int) - (a : Nat) = (U.length : Nat) := by omega
  have z2 : ((b : Nat) : Int) - (m : Nat) = (V.length : Nat) := by omega
  refine CallA.of pg ord288 Tryz.func288 rfl Tryz.ntmps288 Tryz.results288 rfl fun h0 G0 O0 => ?_
  (repeat' (first|(show CA _ _ (Code.block 0 _) _ _;apply Stopped.out)|refine Sp.h ?_|refine Lk.r rfl ?_|refine Rf.mk rfl ?_|(apply Ov.n;(focus first|omega|(simp <;> omega)))|fail));any_goals apply Stopped.mk
  rw [z1, z2]
  repeat' (first|refine Sp.h ?_|fail)
  refine CA.loop (fun s : Nat × Nat × List EvS => ⟨[(0, .ow v), (2, it m), (4, .fn 144 []), (10, it s.1), (11, it s.2.1)], [eR v s.2.2]⟩)
    (fun s => 0 < s.1 ∧ 0 < s.2.1 ∧ ∃ P u w Q, s.2.2 = (p ++ P) ++ (u ++ (w ++ (Q ++ q))) ∧ (p ++ P).length + s.1 = m ∧ u.length = s.1 ∧ w.length = s.2.1 ∧ P ++ (w ++ (u ++ Q)) = V ++ U) (fun s => s.1 + s.2.1) (U.length, V.length, L) ⟨by repeat first|trivial|refine ⟨rfl,?_⟩,by repeat first|exact .nil|refine .cons (by repeat first|exact .here|apply Take.there) ?_⟩ ⟨hu, hv, [], U, V, [], by simpa using hL, by simp [hm], rfl, rfl, by simp⟩ ?_
  rintro ⟨i, j, D⟩ ⟨h1, h2, P, u, w, Q, h3, h4, h5, h6, h7⟩
  simp only at h1 h2 h3 h4 h5 h6
  simp only
  have hlen := congrArg List.length h7
  simp only [List.length_append] at hlen
  have hDl : D.length = L.length := by rw [h3, hll];simp only [List.length_append];omega
  have hmj : m + j ≤ 200000 := by rw [List.length_append] at h4;omega
  rcases Nat.lt_trichotomy i j with hij|hij|hij
  · obtain ⟨w1, w2, rfl, hw1⟩ := split_at w (j - i) (by omega)
    rw [List.length_append] at h6
    have hsw := swapRange_a v D (p ++ P) u w1 w2 (Q ++ q) ((m : Nat) - (i : Nat)) ((m : Nat) + (j : Nat) - (i : Nat)) i (by rw [h3];simp) (by omega) (by omega) (by omega) (by omega) (by omega)
    have e1 : ((j : Nat) : Int) - (i : Nat) = ((j - i : Nat) : Int) := by omega
    repeat' (first|refine Sp.h ?_|refine Lk.r rfl ?_|refine Rf.mk rfl ?_|(apply Bd.f;(focus first|assumption|omega|exact Bool.false_ne_true))|(apply Ov.n;(focus first|omega|(simp <;> omega)))|fail)
    (apply Cl.use (hsw);(focus repeat' (first|exact Lend.nil|apply Lend.keep|fail));(focus (repeat (first|exact Takes.nil|(apply Takes.cons;(focus repeat first|exact .here|apply Take.there)))));(focus rfl))
    rintro _ _ ⟨rfl, rfl⟩
    repeat' (first|refine Sp.h ?_|refine Lk.r rfl ?_|refine Rf.mk rfl ?_|(apply Ov.n;(focus first|omega|(simp <;> omega)))|fail)
    rw [e1]
    exact PA.lp (i, j - i, _) ⟨by repeat first|trivial|refine ⟨rfl,?_⟩,by repeat first|exact .nil|refine .cons (by repeat first|exact .here|apply Take.there) ?_⟩ ⟨⟨h1, by simp only;omega, P, w2, w1, u ++ Q, by simp, h4, by simp only;omega, hw1, by rw [← h7];simp⟩, by simp only;omega⟩
  · subst hij
    have hsw := swapRange_a v D (p ++ P) u [] w (Q ++ q) ((m : Nat) - (i : Nat)) m i (by rw [h3];simp) (by omega) (by simp only [List.length_nil];omega) (by omega) (by omega) (by omega)
    repeat' (first|refine Sp.h ?_|refine Lk.r rfl ?_|refine Rf.mk rfl ?_|(apply Bd.t;(focus first|assumption|omega|rfl))|(apply Ov.n;(focus first|omega|(simp <;> omega)))|fail)
    (apply Cl.use (hsw);(focus repeat' (first|exact Lend.nil|apply Lend.keep|fail));(focus (repeat (first|exact Takes.nil|(apply Takes.cons;(focus repeat first|exact .here|apply Take.there)))));(focus rfl))
    rintro _ _ ⟨rfl, rfl⟩
    repeat' (first|refine Sp.h ?_|(apply Nm.r;focus repeat first|apply LN.cons|exact LN.nil)|fail)
    refine ⟨_, [eR v (p ++ P ++ (w ++ ([] ++ (u ++ (Q ++ q)))))], .tup (.nil (by (repeat first|exact .nil|refine .cons (by repeat first|exact .here|apply Take.there) ?_))), rfl, ?_⟩
    have : p ++ P ++ (w ++ ([] ++ (u ++ (Q ++ q)))) = p ++ ((P ++ (w ++ (u ++ Q))) ++ q) := by simp
    rw [this, h7];simp
  · obtain ⟨u1, u2, rfl, hu1⟩ := split_at u j (by omega)
    rw [List.length_append] at h5
    have hsw := swapRange_a v D (p ++ P) u1 u2 w (Q ++ q) ((m : Nat) - (i : Nat)) m j (by rw [h3];simp) (by omega) (by omega) (by omega) (by omega) (by omega)
    have e1 : ((i : Nat) : Int) - (j : Nat) = ((i - j : Nat) : Int) := by omega
    repeat' (first|refine Sp.h ?_|refine Lk.r rfl ?_|refine Rf.mk rfl ?_|(apply Bd.t;(focus first|assumption|omega|rfl))|(apply Bd.f;(focus first|assumption|omega|exact Bool.false_ne_true))|(apply Ov.n;(focus first|omega|(simp <;> omega)))|fail)
    (apply Cl.use (hsw);(focus repeat' (first|exact Lend.nil|apply Lend.keep|fail));(focus (repeat (first|exact Takes.nil|(apply Takes.cons;(focus repeat first|exact .here|apply Take.there)))));(focus rfl))
    rintro _ _ ⟨rfl, rfl⟩
    repeat' (first|refine Sp.h ?_|refine Lk.r rfl ?_|refine Rf.mk rfl ?_|(apply Ov.n;(focus first|omega|(simp <;> omega)))|fail)
    rw [e1]
    exact PA.lp (i - j, j, _) ⟨by repeat first|trivial|refine ⟨rfl,?_⟩,by repeat first|exact .nil|refine .cons (by repeat first|exact .here|apply Take.there) ?_⟩ ⟨⟨by simp only;omega, h2, P ++ w, u2, u1, Q, by simp, by simp at h4 ⊢;omega, by simp only;omega, hu1, by rw [← h7];simp⟩, by simp only;omega⟩
theorem rotate_a (v : Value) (L p U V q : List EvS) (a m b : Int) (hL : L = p ++ (U ++ (V ++ q))) (ha : a = p.length) (hm : m = p.length + U.length) (hb : b = p.length + U.length + V.length) (hu : 0 < U.length) (hv : 0 < V.length) (hl : L.length ≤ 100000) :
    CallA Tryz.prog 288 [.ow v, it a, it m, it b, .fn 144 []] [eR v L] fun r o => r = .tup [] ∧ o = [eR v (p ++ (V ++ (U ++ q)))] := by
  obtain ⟨A, rfl⟩ : ∃ A : Nat, a = A := ⟨_, ha⟩
  obtain ⟨M, rfl⟩ : ∃ M : Nat, m = M := ⟨p.length + U.length, by omega⟩
  obtain ⟨B, rfl⟩ : ∃ B : Nat, b = B := ⟨p.length + U.length + V.length, by omega⟩
  exact rotate_n v L p U V q A M B hL (by omega) (by omega) (by omega) hu hv hl
end Go.Proofs.YtmllihbhphnolaaGreat
namespace Go.Proofs.YtmllihbhphnolaaGreat
open Go Go.CF
set_option maxRecDepth 20000
theorem LtE.asymm {a b : EvS} (h : LtE a b) : ¬ LtE b a := by unfold LtE at *;omega
theorem le_lt {a b c : EvS} (h : ¬ LtE b a) (h2 : LtE b c) : LtE a c := by unfold LtE at *;omega
theorem lt_le {a b c : EvS} (h : LtE a b) (h2 : ¬ LtE c b) : LtE a c := by unfold LtE at *;omega
theorem le_le {a b c : EvS} (h : ¬ LtE b a) (h2 : ¬ LtE c b) : ¬ LtE c a := by unfold LtE at *;omega
set_option maxHeartbeats 4000000 in
theorem merge1_a (v : Value) (L p B q : List EvS) (x : EvS) (a m b : Nat) (hL : L = p ++ (x :: (B ++ q))) (ha : a = p.length) (hm : m = p.length + 1) (hb : b = p.length + 1 + B.length) (hs : SrtE B) (hl : L.length ≤ 100000) :
    CallA Tryz.prog 267 [.ow v, it a, it m, it b, .fn 144 []] [eR v L] fun r o => ∃ S, r = .tup [] ∧ o = [eR v (p ++ (S ++ q))] ∧ (x :: B).Perm S ∧ SrtE S := by
  have hll : L.length = p.length + 1 + B.length + q.length := by rw [hL];simp;omega
  have hLx : L[a]? = some x := by rw [hL];exact at_len ha
  refine CallA.of pg ord267 Tryz.func267 rfl Tryz.ntmps267 Tryz.results267 rfl fun h0 G0 O0 => ?_
  repeat' (first|refine Sp.h ?_|refine Lk.r rfl ?_|refine Rf.mk rfl ?_|(apply Bd.t;(focus first|assumption|omega|rfl))|(apply Ov.n;(focus first|omega|(simp <;> omega)))|fail)
  refine CA.loop (fun s : Nat × Nat => ⟨[(0, .ow v), (1, it a), (4, .fn 144 []), (10, it s.1), (11, it s.2)], [eR v L]⟩)
    (fun s => ∃ B1 B2 B3, B = B1 ++ (B2 ++ B3) ∧ s.1 = m + B1.length ∧ s.2 = m + B1.length + B2.length ∧ (∀ y ∈ B1, LtE y x) ∧ ∀ y ∈ B3, ¬ LtE y x) (fun s => s.2 - s.1) (m, b) ⟨by repeat first|trivial|refine ⟨rfl,?_⟩,by repeat first|exact .nil|refine .cons (by repeat first|exact .here|apply Take.there) ?_⟩ ⟨[], B, [], by simp, by simp, by simp;omega, by simp, by simp⟩ ?_
  rintro ⟨i, j⟩ ⟨B1, B2, B3, h1, h2, h3, h4, h5⟩
  simp only at h2 h3
  simp only
  have hBl := congrArg List.length h1
  simp only [List.length_append] at hBl
  by_cases hij : i < j
  · obtain ⟨C, D, rfl, hC⟩ := split_at B2 ((i + j) / 2 - i) (by omega)
    rw [List.length_append] at h3 hBl
    obtain ⟨y, D, rfl⟩ := List.exists_cons_of_ne_nil (l := D) (fun h => by subst h;simp at h3;omega)
    simp only [List.length_cons] at h3 hBl
    have e1 : ((i : Int) + (j : Int)) / 2 = (((i + j) / 2 : Nat) : Int) := by omega
    have hy : L[(i + j) / 2]? = some y := by
      have : L = (p ++ x :: (B1 ++ C)) ++ y :: (D ++ (B3 ++ q)) := by rw [hL, h1];simp
      rw [this];exact at_len (by simp;omega)
    rw [h1] at hs
    obtain ⟨-, hs2, -⟩ := List.pairwise_append.1 hs
    obtain ⟨hs3, -, -⟩ := List.pairwise_append.1 hs2
    obtain ⟨-, hs5, hs6⟩ := List.pairwise_append.1 hs3
    obtain ⟨hs7, -⟩ := List.pairwise_cons.1 hs5
    have hcm := cmpE_neg (a := y) (b := x)
    by_cases hlt : LtE y x
    · have hc := hcm.2 hlt
      repeat' (first|refine Sp.h ?_|refine Lk.r rfl ?_|refine Rf.mk rfl ?_|(apply Bd.t;(focus first|assumption|omega|rfl))|refine OpK.r rfl ?_|(apply TkA.r;(focus repeat first|exact .here|apply Take.there))|(apply Ix.q;(focus exact rfl);(focus assumption))|(apply At.r;(focus assumption))|refine Ch.l ⟨rfl, rfl⟩ ?_|(apply CA.draw;(focus rfl);(focus kernel_rfl);(focus kernel_rfl);(focus repeat' (first|apply ON.one|exact ON.done|exact ON.none|apply ON.alt));(focus rfl))|(apply Ov.n;(focus first|omega|(simp <;> omega)))|(apply Cvk.i64;(focus rfl);(focus omega))|(apply Cvk.u64;(focus rfl);(focus omega))|(apply Cl.p (order1_p _ _);(focus repeat' (first|exact Lend.nil|apply Lend.keep|fail))))
      refine PA.lp ((i + j) / 2 + 1, j) ⟨by repeat first|trivial|refine ⟨rfl,?_⟩,by repeat first|exact .nil|refine .cons (by repeat first|exact .here|apply Take.there) ?_⟩ ⟨⟨B1 ++ (C ++ [y]), D, B3, by simp [h1], by simp;omega, by simp;omega, fun z hz => ?_, h5⟩, by simp only;omega⟩
      rcases List.mem_append.1 hz with hz|hz
      · exact h4 z hz
      rcases List.mem_append.1 hz with hz|hz
      · exact le_lt (hs6 z hz y (by simp)) hlt
      · rw [List.mem_singleton.1 hz];exact hlt
    · have hc : ¬ cmpE y x < 0 := fun h => hlt (hcm.1 h)
      repeat' (first|refine Sp.h ?_|refine Lk.r rfl ?_|refine Rf.mk rfl ?_|(apply Bd.t;(focus first|assumption|omega|rfl))|(apply Bd.f;(focus first|assumption|omega|exact Bool.false_ne_true))|refine OpK.r rfl ?_|(apply TkA.r;(focus repeat first|exact .here|apply Take.there))|(apply Ix.q;(focus exact rfl);(focus assumption))|(apply At.r;(focus assumption))|refine Ch.l ⟨rfl, rfl⟩ ?_|(apply CA.draw;(focus rfl);(focus kernel_rfl);(focus kernel_rfl);(focus repeat' (first|apply ON.one|exact ON.done|exact ON.none|apply ON.alt));(focus rfl))|(apply Ov.n;(focus first|omega|(simp <;> omega)))|(apply Cvk.i64;(focus rfl);(focus omega))|(apply Cvk.u64;(focus rfl);(focus omega))|(apply Cl.p (order1_p _ _);(focus repeat' (first|exact Lend.nil|apply Lend.keep|fail))))
      refine PA.lp (i, (i + j) / 2) ⟨by repeat first|trivial|refine ⟨rfl,?_⟩,by repeat first|exact .nil|refine .cons (by repeat first|exact .here|apply Take.there) ?_⟩ ⟨⟨B1, C, y :: D ++ B3, by simp [h1], h2, by simp only;omega, h4, fun z hz => ?_⟩, by simp only;omega⟩
      rcases List.mem_append.1 hz with hz|hz
      · rcases List.mem_cons.1 hz with rfl|hz
        · exact hlt
        · exact fun h => hs7 z hz (lt_le h hlt)
      · exact h5 z hz
  · have e2 : B2 = [] := List.eq_nil_of_length_eq_zero (by omega)
    subst e2
    repeat' (first|refine Sp.h ?_|refine Lk.r rfl ?_|refine Rf.mk rfl ?_|(apply Bd.f;(focus first|assumption|omega|exact Bool.false_ne_true))|fail)
    refine CA.loop (fun s : Nat × List EvS => ⟨[(0, .ow v), (10, it i), (13, it s.1)], [eR v s.2]⟩)
      (fun s => ∃ C1 C2, B1 = C1 ++ C2 ∧ s.1 = (p ++ C1).length ∧ s.2 = (p ++ C1) ++ x :: (C2 ++ (B3 ++ q))) (fun s => i - s.1) (a, L) ⟨by repeat first|trivial|refine ⟨rfl,?_⟩,by repeat first|exact .nil|refine .cons (by repeat first|exact .here|apply Take.there) ?_⟩ ⟨[], B1, rfl, by simpa using ha, by simp only;rw [hL, h1];simp⟩ ?_
    rintro ⟨k, D⟩ ⟨C1, C2, g1, g2, g3⟩
    simp only at g2 g3
    simp only
    have hC := congrArg List.length g1
    rw [List.length_append] at hC
    rw [List.length_append] at g2
    have hDl : D.length = L.length := by rw [g3, hll];simp only [List.length_append, List.length_cons];simp at hBl;omega
    by_cases hk : C2 = []
    · subst hk
      have hki : k + 1 = i := by simp at hC;omega
      repeat' (first|refine Sp.h ?_|refine Lk.r rfl ?_|refine Rf.mk rfl ?_|(apply Bd.f;(focus first|assumption|omega|exact Bool.false_ne_true))|(apply Nm.r;focus repeat first|apply LN.cons|exact LN.nil)|(apply Ov.n;(focus first|omega|(simp <;> omega)))|fail)
      refine ⟨_, [eR v D], .tup (.nil (by (repeat first|exact .nil|refine .cons (by repeat first|exact .here|apply Take.there) ?_))), B1 ++ x :: B3, rfl, by rw [g3, g1];simp, ?_, ?_⟩
      · rw [h1];exact List.perm_middle.symm
      · rw [h1] at hs
        obtain ⟨s1, s2, s3⟩ := List.pairwise_append.1 hs
        refine List.pairwise_append.2 ⟨s1, List.pairwise_cons.2 ⟨h5, s2⟩, fun s hs t ht => ?_⟩
        rcases List.mem_cons.1 ht with rfl|ht
        · exact (h4 s hs).asymm
        · exact s3 s hs t ht
    · obtain ⟨y, C3, rfl⟩ := List.exists_cons_of_ne_nil hk
      simp only [List.length_cons] at hC
      have hk0 : k = (p ++ C1).length := by rw [List.length_append];exact g2
      have f2 : D = (p ++ C1 ++ [x]) ++ y :: (C3 ++ (B3 ++ q)) := by rw [g3];simp
      have hx1 : D[k]? = some x := by rw [g3];exact at_len hk0
      have hy1 : D[k + 1]? = some y := by rw [f2];exact at_len (by simp;omega)
      have hy2 : (D.set k y)[k + 1]? = some y := by rw [List.getElem?_set, if_neg (by omega), hy1]
      have hsw : (D.set k y).set (k + 1) x = (p ++ (C1 ++ [y])) ++ x :: (C3 ++ (B3 ++ q)) := by rw [g3, List.cons_append, swap_len hk0];simp
      repeat' (first|refine Sp.h ?_|refine Lk.r rfl ?_|refine Rf.mk rfl ?_|(apply Bd.t;(focus first|assumption|omega|rfl))|refine OpK.r rfl ?_|(apply TkA.r;(focus repeat first|exact .here|apply Take.there))|(apply Ix.q;(focus exact rfl);(focus assumption))|(apply At.r;(focus assumption))|refine Ch.l ⟨rfl, rfl⟩ ?_|(apply SetAsk.r;(focus (repeat (first|exact SetAs.z|(apply SetAs.c;(focus (repeat first|assumption|exact SetA.z|apply SetA.s)))))))|refine Up.r rfl ?_|(apply CA.draw;(focus rfl);(focus kernel_rfl);(focus kernel_rfl);(focus repeat' (first|apply ON.one|exact ON.done|exact ON.none|apply ON.alt));(focus rfl))|(apply Ov.n;(focus first|omega|(simp <;> omega)))|fail)
      all_goals exact PA.lp (k + 1, (D.set k y).set (k + 1) x) ⟨by repeat first|trivial|refine ⟨rfl,?_⟩,by repeat first|exact .nil|refine .cons (by repeat first|exact .here|apply Take.there) ?_⟩ ⟨⟨C1 ++ [y], C3, by simp [g1], by simp;omega, hsw⟩, by simp only;omega⟩
set_option maxHeartbeats 4000000 in
theorem merge2_a (v : Value) (L p A q : List EvS) (y : EvS) (a m b : Nat) (hL : L = p ++ (A ++ y :: q)) (ha : a = p.length) (hm : m = p.length + A.length) (hb : b = p.length + A.length + 1) (hA : A.length ≠ 1) (hs : SrtE A) (hl : L.length ≤ 100000) :
    CallA Tryz.prog 267 [.ow v, it a, it m, it b, .fn 144 []] [eR v L] fun r o => ∃ S, r = .tup [] ∧ o = [eR v (p ++ (S ++ q))] ∧ (A ++ [y]).Perm S ∧ SrtE S := by
  have hll : L.length = p.length + A.length + 1 + q.length := by rw [hL];simp;omega
  have hLy : L[m]? = some y := by
    have : L = (p ++ A) ++ y :: q := by rw [hL];simp
    rw [this];exact at_len (by simp;omega)
  refine CallA.of pg ord267 Tryz.func267 rfl Tryz.ntmps267 Tryz.results267 rfl fun h0 G0 O0 => ?_
  repeat' (first|refine Sp.h ?_|refine Lk.r rfl ?_|refine Rf.mk rfl ?_|(apply Bd.t;(focus first|assumption|omega|rfl))|(apply Bd.f;(focus first|assumption|omega|exact Bool.false_ne_true))|(apply Ov.n;(focus first|omega|(simp <;> omega)))|fail)
  refine CA.loop (fun s : Nat × Nat => ⟨[(0, .ow v), (2, it m), (4, .fn 144 []), (14, it s.1), (15, it s.2)], [eR v L]⟩)
    (fun s => ∃ A1 A2 A3, A = A1 ++ (A2 ++ A3) ∧ s.1 = a + A1.length ∧ s.2 = a + A1.length + A2.length ∧ (∀ x ∈ A1, ¬ LtE y x) ∧ ∀ x ∈ A3, LtE y x) (fun s => s.2 - s.1) (a, m) ⟨by repeat first|trivial|refine ⟨rfl,?_⟩,by repeat first|exact .nil|refine .cons (by repeat first|exact .here|apply Take.there) ?_⟩ ⟨[], A, [], by simp, by simp, by simp;omega, by simp, by simp⟩ ?_
  rintro ⟨i, j⟩ ⟨A1, A2, A3, h1, h2, h3, h4, h5⟩
  simp only at h2 h3
  simp only
  have hAl := congrArg List.length h1
  simp only [List.length_append] at hAl
  by_cases hij : i < j
  · obtain ⟨C, D, rfl, hC⟩ := split_at A2 ((i + j) / 2 - i) (by omega)
    rw [List.length_append] at h3 hAl
    obtain ⟨x, D, rfl⟩ := List.exists_cons_of_ne_nil (l := D) (fun h => by subst h;simp at h3;omega)
    simp only [List.length_cons] at h3 hAl
    have e1 : ((i : Int) + (j : Int)) / 2 = (((i + j) / 2 : Nat) : Int) := by omega
    have hx : L[(i + j) / 2]? = some x := by
      have : L = (p ++ (A1 ++ C)) ++ x :: (D ++ (A3 ++ y :: q)) := by rw [hL, h1];simp
      rw [this];exact at_len (by simp;omega)
    rw [h1] at hs
    obtain ⟨-, hs2, -⟩ := List.pairwise_append.1 hs
    obtain ⟨hs3, -, -⟩ := List.pairwise_append.1 hs2
    obtain ⟨-, hs5, hs6⟩ := List.pairwise_append.1 hs3
    obtain ⟨hs7, -⟩ := List.pairwise_cons.1 hs5
    have hcm := cmpE_neg (a := y) (b := x)
    by_cases hlt : LtE y x
    · have hc := hcm.2 hlt
      repeat' (first|refine Sp.h ?_|refine Lk.r rfl ?_|refine Rf.mk rfl ?_|(apply Bd.t;(focus first|assumption|omega|rfl))|refine OpK.r rfl ?_|(apply TkA.r;(focus repeat first|exact .here|apply Take.there))|(apply Ix.q;(focus exact rfl);(focus assumption))|(apply At.r;(focus assumption))|refine Ch.l ⟨rfl, rfl⟩ ?_|(apply CA.draw;(focus rfl);(focus kernel_rfl);(focus kernel_rfl);(focus repeat' (first|apply ON.one|exact ON.done|exact ON.none|apply ON.alt));(focus rfl))|(apply Ov.n;(focus first|omega|(simp <;> omega)))|(apply Cvk.i64;(focus rfl);(focus omega))|(apply Cvk.u64;(focus rfl);(focus omega))|(apply Cl.p (order1_p _ _);(focus repeat' (first|exact Lend.nil|apply Lend.keep|fail))))
      refine PA.lp (i, (i + j) / 2) ⟨by repeat first|trivial|refine ⟨rfl,?_⟩,by repeat first|exact .nil|refine .cons (by repeat first|exact .here|apply Take.there) ?_⟩ ⟨⟨A1, C, x :: D ++ A3, by simp [h1], h2, by simp only;omega, h4, fun z hz => ?_⟩, by simp only;omega⟩
      rcases List.mem_append.1 hz with hz|hz
      · rcases List.mem_cons.1 hz with rfl|hz
        · exact hlt
        · exact lt_le hlt (hs7 z hz)
      · exact h5 z hz
    · have hc : ¬ cmpE y x < 0 := fun h => hlt (hcm.1 h)
      repeat' (first|refine Sp.h ?_|refine Lk.r rfl ?_|refine Rf.mk rfl ?_|(apply Bd.t;(focus first|assumption|omega|rfl))|(apply Bd.f;(focus first|assumption|omega|exact Bool.false_ne_true))|refine OpK.r rfl ?_|(apply TkA.r;(focus repeat first|exact .here|apply Take.there))|(apply Ix.q;(focus exact rfl);(focus assumption))|(apply At.r;(focus assumption))|refine Ch.l ⟨rfl, rfl⟩ ?_|(apply CA.draw;(focus rfl);(focus kernel_rfl);(focus kernel_rfl);(focus repeat' (first|apply ON.one|exact ON.done|exact ON.none|apply ON.alt));(focus rfl))|(apply Ov.n;(focus first|omega|(simp <;> omega)))|(apply Cvk.i64;(focus rfl);(focus omega))|(apply Cvk.u64;(focus rfl);(focus omega))|(apply Cl.p (order1_p _ _);(focus repeat' (first|exact Lend.nil|apply Lend.keep|fail))))
      refine PA.lp ((i + j) / 2 + 1, j) ⟨by repeat first|trivial|refine ⟨rfl,?_⟩,by repeat first|exact .nil|refine .cons (by repeat first|exact .here|apply Take.there) ?_⟩ ⟨⟨A1 ++ (C ++ [x]), D, A3, by simp [h1], by simp;omega, by simp;omega, fun z hz => ?_, h5⟩, by simp only;omega⟩
      rcases List.mem_append.1 hz with hz|hz
      · exact h4 z hz
      rcases List.mem_append.1 hz with hz|hz
      · exact le_le (hs6 z hz x (by simp)) hlt
      · rw [List.mem_singleton.1 hz];exact hlt
  · have e2 : A2 = [] := List.eq_nil_of_length_eq_zero (by omega)
    subst e2
    repeat' (first|refine Sp.h ?_|refine Lk.r rfl ?_|refine Rf.mk rfl ?_|(apply Bd.f;(focus first|assumption|omega|exact Bool.false_ne_true))|fail)
    refine CA.loop (fun s : Nat × List EvS => ⟨[(0, .ow v), (14, it i), (17, it s.1)], [eR v s.2]⟩)
      (fun s => ∃ C1 C2, A3 = C1 ++ C2 ∧ s.1 = (p ++ A1 ++ C1).length ∧ s.2 = (p ++ A1 ++ C1) ++ y :: (C2 ++ q)) (fun s => s.1) (m, L) ⟨by repeat first|trivial|refine ⟨rfl,?_⟩,by repeat first|exact .nil|refine .cons (by repeat first|exact .here|apply Take.there) ?_⟩ ⟨A3, [], by simp, by simp at hAl ⊢;omega, by simp only;rw [hL, h1];simp⟩ ?_
    rintro ⟨k, D⟩ ⟨C1, C2, g1, g2, g3⟩
    simp only at g2 g3
    simp only
    have hC := congrArg List.length g1
    rw [List.length_append] at hC
    have hDl : D.length = L.length := by rw [g3, hll];simp only [List.length_append, List.length_cons];simp at hAl;omega
    by_cases hk : C1 = []
    · subst hk
      have hki : k = i := by simp at g2;omega
      repeat' (first|refine Sp.h ?_|refine Lk.r rfl ?_|refine Rf.mk rfl ?_|(apply Bd.f;(focus first|assumption|omega|exact Bool.false_ne_true))|(apply Nm.r;focus repeat first|apply LN.cons|exact LN.nil)|fail)
      refine ⟨_, [eR v D], .tup (.nil (by (repeat first|exact .nil|refine .cons (by repeat first|exact .here|apply Take.there) ?_))), A1 ++ y :: A3, rfl, by rw [g3, g1];simp, ?_, ?_⟩
      · rw [h1]
        refine (List.perm_append_singleton y _).trans ?_
        exact List.perm_middle.symm
      · rw [h1] at hs
        obtain ⟨s1, s2, s3⟩ := List.pairwise_append.1 hs
        refine List.pairwise_append.2 ⟨s1, List.pairwise_cons.2 ⟨fun t ht => (h5 t ht).asymm, s2⟩, fun s hs t ht => ?_⟩
        rcases List.mem_cons.1 ht with rfl|ht
        · exact h4 s hs
        · exact s3 s hs t ht
    · obtain ⟨C3, x, rfl⟩ := ne_snoc hk
      obtain ⟨k, rfl⟩ : ∃ k', k = k' + 1 := ⟨k - 1, by simp at g2;omega⟩
      have hk0 : k = (p ++ A1 ++ C3).length := by simp at g2 ⊢;omega
      have f2 : D = (p ++ A1 ++ C3) ++ x :: y :: (C2 ++ q) := by rw [g3];simp
      have hx1 : D[k]? = some x := by rw [f2];exact at_len hk0
      have hy1 : D[k + 1]? = some y := by rw [g3];exact at_len g2
      have hy2 : (D.set (k + 1) x)[k]? = some x := by rw [List.getElem?_set, if_neg (by omega), hx1]
      have e1 : ((k + 1 : Nat) : Int) - 1 = (k : Nat) := by omega
      have hgt : i < k + 1 := by simp at g2;omega
      have hkb : k + 1 ≤ 200000 := by have := (List.getElem?_eq_some_iff.1 hy1).1;omega
      have hsw : (D.set (k + 1) x).set k y = (p ++ A1 ++ C3) ++ y :: (x :: C2 ++ q) := by rw [f2, swap_len' hk0];simp
      repeat' (first|refine Sp.h ?_|refine Lk.r rfl ?_|refine Rf.mk rfl ?_|(apply Bd.t;(focus first|assumption|omega|rfl))|refine OpK.r rfl ?_|(apply TkA.r;(focus repeat first|exact .here|apply Take.there))|(apply Ix.q;(focus exact rfl);(focus assumption))|(apply Ix.r;(focus assumption);(focus omega))|(apply At.r;(focus assumption))|refine Ch.l ⟨rfl, rfl⟩ ?_|(apply SetAsk.r;(focus (repeat (first|exact SetAs.z|(apply SetAs.c;(focus (repeat first|assumption|exact SetA.z|apply SetA.s)))))))|refine Up.r rfl ?_|(apply CA.draw;(focus rfl);(focus kernel_rfl);(focus kernel_rfl);(focus repeat' (first|apply ON.one|exact ON.done|exact ON.none|apply ON.alt));(focus rfl))|(apply Ov.n;(focus first|omega|(simp <;> omega)))|(apply Ix.q;(focus assumption);(focus assumption))|fail)
      all_goals rw [e1]
      all_goals exact PA.lp (k, (D.set (k + 1) x).set k y) ⟨by repeat first|trivial|refine ⟨rfl,?_⟩,by repeat first|exact .nil|refine .cons (by repeat first|exact .here|apply Take.there) ?_⟩ ⟨⟨C3, x :: C2, by simp [g1], hk0, hsw⟩, by simp only;omega⟩
end Go.Proofs.YtmllihbhphnolaaGreat
namespace Go.Proofs.YtmllihbhphnolaaGreat
open Go Go.CF
set_option maxRecDepth 20000
theorem perm4 {α : Type} (a b c d : List α) : ((a ++ b) ++ (c ++ d)).Perm ((a ++ c) ++ (b ++ d)) := by
  simp only [List.append_assoc]
  refine List.Perm.append_left a ?_
  rw [← List.append_assoc, ← List.append_assoc]
  exact List.Perm.append_right d List.perm_append_comm
theorem srt_mem {l : List EvS} (h : SrtE l) {i j : Nat} {x y : EvS} (hij : i ≤ j) (hx : l[i]? = some x) (hy : l[j]? = some y) : ¬ LtE y x := by
  rcases Nat.lt_or_ge i j with h1|h1
  · obtain ⟨i1, rfl⟩ := List.getElem?_eq_some_iff.1 hx
    obtain ⟨j1, rfl⟩ := List.getElem?_eq_some_iff.1 hy
    exact List.pairwise_iff_getElem.1 h i j i1 j1 h1
  · have : i = j := by omega
    subst this
    rw [hx] at hy;cases hy
    unfold LtE;omega
set_option maxHeartbeats 8000000 in
theorem symMerge_n : ∀ (N : Nat) (v : Value) (L p A B q : List EvS) (a m b : Nat), A.length + B.length ≤ N → L = p ++ (A ++ (B ++ q)) → a = p.length → m = p.length + A.length → b = p.length + A.length + B.length → 0 < A.length → 0 < B.length → SrtE A → SrtE B → L.length ≤ 100000 →
    CallA Tryz.prog 267 [.ow v, it a, it m, it b, .fn 144 []] [eR v L] fun r o => ∃ S, r = .tup [] ∧ o = [eR v (p ++ (S ++ q))] ∧ (A ++ B).Perm S ∧ SrtE S := by
  intro N
  induction N with
  | zero => intro v L p A B q a m b h0;omega
  | succ N ih =>
  intro v L p A B q a m b hN hL ha hm hb hA hB sA sB hl
  by_cases hA1 : A.length = 1
  · obtain ⟨x, rfl⟩ := List.length_eq_one_iff.1 hA1
    exact merge1_a v L p B q x a m b (by simpa using hL) ha hm (by simpa using hb) sB hl
  by_cases hB1 : B.length = 1
  · obtain ⟨y, rfl⟩ := List.length_eq_one_iff.1 hB1
    exact merge2_a v L p A q y a m b (by simpa using hL) ha hm (by simpa using hb) hA1 sA hl
  have hll : L.length = p.length + A.length + B.length + q.length := by rw [hL];simp;omega
  obtain ⟨mid, hmid⟩ : ∃ mid, mid = (a + b) / 2 := ⟨_, rfl⟩
  have e0 : ((a : Int) + (b : Int)) / 2 = ((mid : Nat) : Int) := by omega
  refine CallA.of pg ord267 Tryz.func267 rfl Tryz.ntmps267 Tryz.results267 rfl fun h0 G0 O0 => ?_
  (repeat' (first|(show CA _ _ (Code.cond (Operand.tmp 140) _ _) _ _;apply Stopped.out)|refine Sp.h ?_|refine Lk.r rfl ?_|refine Rf.mk rfl ?_|(apply Bd.f;(focus first|assumption|omega|exact Bool.false_ne_true))|(apply Ov.n;(focus first|omega|(simp <;> omega)))|(apply Cvk.i64;(focus rfl);(focus omega))|(apply Cvk.u64;(focus rfl);(focus omega))|fail));any_goals apply Stopped.mk
  rw [e0]
  refine CA.cut (fun s : Nat × Nat => ⟨[(0, .ow v), (1, it a), (2, it m), (3, it b), (4, .fn 144 []), (18, it mid), (19, it ((mid : Int) + (m : Int))), (20, it s.1), (21, it s.2)], [eR v L]⟩) (fun s => mid < m ∧ s.1 = mid + m - b ∧ s.2 = mid ∨ m ≤ mid ∧ s.1 = a ∧ s.2 = m) ?_ ?_
  · by_cases hc : mid < m
    · have e1 : (mid : Int) + (m : Int) - (b : Int) = ((mid + m - b : Nat) : Int) := by omega
      repeat' (first|refine Sp.h ?_|refine Lk.r rfl ?_|refine Rf.mk rfl ?_|(apply Bd.t;(focus first|assumption|omega|rfl))|(apply Ov.n;(focus first|omega|(simp <;> omega)))|fail)
      rw [e1]
      exact PA.lp (mid + m - b, mid) ⟨by repeat first|trivial|refine ⟨rfl,?_⟩,by repeat first|exact .nil|refine .cons (by repeat first|exact .here|apply Take.there) ?_⟩ (.inl ⟨hc, rfl, rfl⟩)
    · repeat' (first|refine Sp.h ?_|refine Lk.r rfl ?_|refine Rf.mk rfl ?_|(apply Bd.f;(focus first|assumption|omega|exact Bool.false_ne_true))|fail)
      exact PA.lp (a, m) ⟨by repeat first|trivial|refine ⟨rfl,?_⟩,by repeat first|exact .nil|refine .cons (by repeat first|exact .here|apply Take.there) ?_⟩ (.inr ⟨by omega, rfl, rfl⟩)
  rintro ⟨s0, r0⟩ hs0
  simp only at hs0
  simp only
  -- what two places hold
  have hAx : ∀ c, a ≤ c → c < m → ∃ x, L[c]? = some x ∧ A[c - a]? = some x := fun c h1 h2 => by
    obtain ⟨x, hx⟩ := get_of (l := A) (i := c - a) (by omega)
    refine ⟨x, ?_, hx⟩
    rw [hL, List.getElem?_append_right (by omega), List.getElem?_append_left (by omega), ← ha];exact hx
  have hBx : ∀ c, m ≤ c → c < b → ∃ x, L[c]? = some x ∧ B[c - m]? = some x := fun c h1 h2 => by
    obtain ⟨x, hx⟩ := get_of (l := B) (i := c - m) (by omega)
    refine ⟨x, ?_, hx⟩
    rw [hL, List.getElem?_append_right (by omega), List.getElem?_append_right (by omega), List.getElem?_append_left (by omega), show c - p.length - A.length = c - m by omega];exact hx
  repeat' (first|refine Sp.h ?_|refine Lk.r rfl ?_|refine Rf.mk rfl ?_|(apply Ov.n;(focus first|omega|(simp <;> omega)))|fail)
  refine CA.loop (fun s : Nat × Nat => ⟨[(0, .ow v), (1, it a), (2, it m), (3, it b), (4, .fn 144 []), (18, it mid), (19, it ((mid : Int) + (m : Int))), (20, it s.1), (21, it s.2), (22, it ((mid : Int) + (m : Int) - 1))], [eR v L]⟩)
    (fun s => s0 ≤ s.1 ∧ s.1 ≤ s.2 ∧ s.2 ≤ r0 ∧ (s.1 = s0 ∨ ∃ x y, A[s.1 - 1 - a]? = some x ∧ B[mid + m - s.1 - m]? = some y ∧ ¬ LtE y x) ∧ (s.2 = r0 ∨ ∃ x y, A[s.2 - a]? = some x ∧ B[mid + m - 1 - s.2 - m]? = some y ∧ LtE y x)) (fun s => s.2 - s.1) (s0, r0) ⟨by repeat first|trivial|refine ⟨rfl,?_⟩,by repeat first|exact .nil|refine .cons (by repeat first|exact .here|apply Take.there) ?_⟩ ⟨Nat.le_refl _, by simp only;omega, Nat.le_refl _, .inl rfl, .inl rfl⟩ ?_
  rintro ⟨s, r⟩ ⟨g1, g2, g3, g4, g5⟩
  simp only at g1 g2 g3 g4 g5
  simp only
  by_cases hsr : s < r
  · obtain ⟨x, hx, hxA⟩ := hAx ((s + r) / 2) (by omega) (by omega)
    obtain ⟨y, hy, hyB⟩ := hBx (mid + m - 1 - (s + r) / 2) (by omega) (by omega)
    have e1 : ((s : Int) + (r : Int)) / 2 = (((s + r) / 2 : Nat) : Int) := by omega
    have e2 : (mid : Int) + (m : Int) - 1 - ((s : Int) + (r : Int)) / 2 = ((mid + m - 1 - (s + r) / 2 : Nat) : Int) := by omega
    have hcm := cmpE_neg (a := y) (b := x)
    by_cases hlt : LtE y x
    · have hc := hcm.2 hlt
      repeat' (first|refine Sp.h ?_|refine Lk.r rfl ?_|refine Rf.mk rfl ?_|(apply Bd.t;(focus first|assumption|omega|rfl))|refine OpK.r rfl ?_|(apply TkA.r;(focus repeat first|exact .here|apply Take.there))|(apply Ix.q;(focus exact rfl);(focus assumption))|(apply Ix.r;(focus assumption);(focus omega))|(apply At.r;(focus assumption))|refine Ch.l ⟨rfl, rfl⟩ ?_|(apply CA.draw;(focus rfl);(focus kernel_rfl);(focus kernel_rfl);(focus repeat' (first|apply ON.one|exact ON.done|exact ON.none|apply ON.alt));(focus rfl))|(apply Ov.n;(focus first|omega|(simp <;> omega)))|(apply Cvk.i64;(focus rfl);(focus omega))|(apply Cvk.u64;(focus rfl);(focus omega))|(apply Cl.p (order1_p _ _);(focus repeat' (first|exact Lend.nil|apply Lend.keep|fail))))
      exact PA.lp (s, (s + r) / 2) ⟨by repeat first|trivial|refine ⟨rfl,?_⟩,by repeat first|exact .nil|refine .cons (by repeat first|exact .here|apply Take.there) ?_⟩ ⟨⟨g1, by simp only;omega, by simp only;omega, g4, .inr ⟨x, y, hxA, hyB, hlt⟩⟩, by simp only;omega⟩
    · have hc : ¬ cmpE y x < 0 := fun h => hlt (hcm.1 h)
      repeat' (first|refine Sp.h ?_|refine Lk.r rfl ?_|refine Rf.mk rfl ?_|(apply Bd.t;(focus first|assumption|omega|rfl))|(apply Bd.f;(focus first|assumption|omega|exact Bool.false_ne_true))|refine OpK.r rfl ?_|(apply TkA.r;(focus repeat first|exact .here|apply Take.there))|(apply Ix.q;(focus exact rfl);(focus assumption))|(apply Ix.r;(focus assumption);(focus omega))|(apply At.r;(focus assumption))|refine Ch.l ⟨rfl, rfl⟩ ?_|(apply CA.draw;(focus rfl);(focus kernel_rfl);(focus kernel_rfl);(focus repeat' (first|apply ON.one|exact ON.done|exact ON.none|apply ON.alt));(focus rfl))|(apply Ov.n;(focus first|omega|(simp <;> omega)))|(apply Cvk.i64;(focus rfl);(focus omega))|(apply Cvk.u64;(focus rfl);(focus omega))|(apply Cl.p (order1_p _ _);(focus repeat' (first|exact Lend.nil|apply Lend.keep|fail))))
      exact PA.lp ((s + r) / 2 + 1, r) ⟨by repeat first|trivial|refine ⟨rfl,?_⟩,by repeat first|exact .nil|refine .cons (by repeat first|exact .here|apply Take.there) ?_⟩ ⟨⟨by simp only;omega, by simp only;omega, g3, .inr ⟨x, y, by simp only;rw [show (s + r) / 2 + 1 - 1 = (s + r) / 2 by omega];exact hxA, by simp only;rw [show mid + m - ((s + r) / 2 + 1) - m = mid + m - 1 - (s + r) / 2 - m by omega];exact hyB, hlt⟩, g5⟩, by simp only;omega⟩
  have hsre : s = r := by omega
  subst hsre
  obtain ⟨E, hE⟩ : ∃ E, E = mid + m - s := ⟨_, rfl⟩
  have e3 : (mid : Int) + (m : Int) - (s : Int) = ((E : Nat) : Int) := by omega
  obtain ⟨A1, A2, hA12, lA1⟩ := split_at A (s - a) (by omega)
  obtain ⟨B1, B2, hB12, lB1⟩ := split_at B (E - m) (by omega)
  have lA := congrArg List.length hA12
  have lB := congrArg List.length hB12
  rw [List.length_append] at lA lB
  have c1 : ∀ x ∈ A1, ∀ y ∈ B2, ¬ LtE y x := fun x hx y hy => by
    obtain ⟨i, hi⟩ := List.getElem?_of_mem hx
    obtain ⟨j, hj⟩ := List.getElem?_of_mem hy
    have hi1 := (List.getElem?_eq_some_iff.1 hi).1
    have hj1 := (List.getElem?_eq_some_iff.1 hj).1
    have hi2 : A[i]? = some x := by rw [hA12, List.getElem?_append_left hi1];exact hi
    have hj2 : B[B1.length + j]? = some y := by rw [hB12, List.getElem?_append_right (by omega), Nat.add_sub_cancel_left];exact hj
    rcases g4 with h|⟨u, w, hu, hw, huw⟩
    · rcases hs0 with ⟨h2, h3, h4⟩|⟨h2, h3, h4⟩ <;> omega
    · have k1 := srt_mem sA (i := i) (j := s - 1 - a) (by omega) hi2 hu
      have k2 := srt_mem sB (i := mid + m - s - m) (j := B1.length + j) (by omega) hw hj2
      unfold LtE at *;omega
  have c2 : ∀ x ∈ A2, ∀ y ∈ B1, LtE y x := fun x hx y hy => by
    obtain ⟨i, hi⟩ := List.getElem?_of_mem hx
    obtain ⟨j, hj⟩ := List.getElem?_of_mem hy
    have hi1 := (List.getElem?_eq_some_iff.1 hi).1
    have hj1 := (List.getElem?_eq_some_iff.1 hj).1
    have hi2 : A[A1.length + i]? = some x := by rw [hA12, List.getElem?_append_right (by omega), Nat.add_sub_cancel_left];exact hi
    have hj2 : B[j]? = some y := by rw [hB12, List.getElem?_append_left hj1];exact hj
    rcases g5 with h|⟨u, w, hu, hw, huw⟩
    · rcases hs0 with ⟨h2, h3, h4⟩|⟨h2, h3, h4⟩ <;> omega
    · have k1 := srt_mem sA (i := s - a) (j := A1.length + i) (by omega) hu hi2
      have k2 := srt_mem sB (i := j) (j := mid + m - 1 - s - m) (by omega) hj2 hw
      unfold LtE at *;omega
  rw [hA12] at sA
  rw [hB12] at sB
  obtain ⟨sA1, sA2, sA3⟩ := List.pairwise_append.1 sA
  obtain ⟨sB1, sB2, sB3⟩ := List.pairwise_append.1 sB
  obtain ⟨L2, hL2⟩ : ∃ L2, L2 = p ++ (A1 ++ (B1 ++ (A2 ++ (B2 ++ q)))) := ⟨_, rfl⟩
  have hL1 : L = (p ++ A1) ++ (A2 ++ (B1 ++ (B2 ++ q))) := by rw [hL, hA12, hB12];simp
  have hL2l : L2.length = L.length := by rw [hL2, hll];simp only [List.length_append];omega
  (repeat' (first|(show CA _ _ (Code.region 39 _ _) _ _;apply Stopped.out)|refine Sp.h ?_|refine Lk.r rfl ?_|refine Rf.mk rfl ?_|(apply Bd.f;(focus first|assumption|omega|exact Bool.false_ne_true))|(apply Ov.n;(focus first|omega|(simp <;> omega)))|fail));any_goals apply Stopped.mk
  rw [e3]
  refine CA.cut (fun c : Bool => ⟨[(0, .ow v), (1, it a), (2, it m), (3, it b), (4, .fn 144 []), (18, it mid), (20, it s), (24, it E), (185, bl c)], [eR v L]⟩) (fun c => c = true ↔ s < m ∧ m < E) ?_ ?_
  · repeat' (first|refine Sp.h ?_|refine Lk.r rfl ?_|refine Rf.mk rfl ?_|(apply Bd.t;(focus first|assumption|omega|rfl))|(apply Bd.f;(focus first|assumption|omega|exact Bool.false_ne_true))|(refine Bd.mk ?_ ?_ <;> intro _)|fail)
    all_goals exact PA.lp _ ⟨by repeat first|trivial|refine ⟨rfl,?_⟩,by repeat first|exact .nil|refine .cons (by repeat first|exact .here|apply Take.there) ?_⟩ (by simp;omega)
  rintro c hc
  simp only
  refine Sp.h ?_
  refine CA.cut (fun _ : Unit => ⟨[(0, .ow v), (1, it a), (2, it m), (3, it b), (4, .fn 144 []), (18, it mid), (20, it s), (24, it E)], [eR v L2]⟩) (fun _ => True) ?_ ?_
  · cases c
    · have hn : ¬ (s < m ∧ m < E) := fun h => by have := hc.2 h;cases this
      have hLL : L = L2 := by
        rw [hL1, hL2]
        by_cases h : m ≤ s
        · have : A2 = [] := List.eq_nil_of_length_eq_zero (by omega)
          subst this;simp
        · have : B1 = [] := List.eq_nil_of_length_eq_zero (by omega)
          subst this;simp
      repeat' (first|refine Sp.h ?_|refine Lk.r rfl ?_|fail)
      rw [hLL]
      exact PA.lp () ⟨by repeat first|trivial|refine ⟨rfl,?_⟩,by repeat first|exact .nil|refine .cons (by repeat first|exact .here|apply Take.there) ?_⟩ trivial
    · have hy := hc.1 rfl
      have hro := rotate_a v L (p ++ A1) A2 B1 (B2 ++ q) s m E hL1 (by rw [List.length_append];omega) (by rw [List.length_append];omega) (by rw [List.length_append];omega) (by omega) (by omega) hl
      have hLL : p ++ A1 ++ (B1 ++ (A2 ++ (B2 ++ q))) = L2 := by rw [hL2];simp
      rw [hLL] at hro
      repeat' (first|refine Sp.h ?_|refine Lk.r rfl ?_|refine Rf.mk rfl ?_|fail)
      (apply Cl.use (hro);(focus repeat' (first|exact Lend.nil|apply Lend.keep|fail));(focus (repeat (first|exact Takes.nil|(apply Takes.cons;(focus repeat first|exact .here|apply Take.there)))));(focus rfl))
      rintro _ _ ⟨rfl, rfl⟩
      repeat' (first|refine Sp.h ?_|fail)
      exact PA.lp () ⟨by repeat first|trivial|refine ⟨rfl,?_⟩,by repeat first|exact .nil|refine .cons (by repeat first|exact .here|apply Take.there) ?_⟩ trivial
  rintro ⟨⟩ -
  simp only
  (repeat' (first|(show CA _ _ (Code.region 41 _ _) _ _;apply Stopped.out)|refine Sp.h ?_|fail));any_goals apply Stopped.mk
  refine CA.cut (fun c : Bool => ⟨[(0, .ow v), (1, it a), (2, it m), (3, it b), (4, .fn 144 []), (18, it mid), (20, it s), (24, it E), (199, bl c)], [eR v L2]⟩) (fun c => c = true ↔ a < s ∧ s < mid) ?_ ?_
  · repeat' (first|refine Sp.h ?_|refine Lk.r rfl ?_|refine Rf.mk rfl ?_|(apply Bd.t;(focus first|assumption|omega|rfl))|(apply Bd.f;(focus first|assumption|omega|exact Bool.false_ne_true))|(refine Bd.mk ?_ ?_ <;> intro _)|fail)
    all_goals exact PA.lp _ ⟨by repeat first|trivial|refine ⟨rfl,?_⟩,by repeat first|exact .nil|refine .cons (by repeat first|exact .here|apply Take.there) ?_⟩ (by simp;omega)
  rintro c hc
  simp only
  refine Sp.h ?_
  refine CA.cut (fun S1 : List EvS => ⟨[(0, .ow v), (3, it b), (4, .fn 144 []), (18, it mid), (24, it E)], [eR v (p ++ (S1 ++ (A2 ++ (B2 ++ q))))]⟩) (fun S1 => (A1 ++ B1).Perm S1 ∧ SrtE S1) ?_ ?_
  · cases c
    · have hn : ¬ (a < s ∧ s < mid) := fun h => by have := hc.2 h;cases this
      have hLL : L2 = p ++ ((A1 ++ B1) ++ (A2 ++ (B2 ++ q))) := by rw [hL2];simp
      have hss : SrtE (A1 ++ B1) := by
        by_cases h : s ≤ a
        · have : A1 = [] := List.eq_nil_of_length_eq_zero (by omega)
          subst this;simpa using sB1
        · have : B1 = [] := List.eq_nil_of_length_eq_zero (by omega)
          subst this;simpa using sA1
      repeat' (first|refine Sp.h ?_|refine Lk.r rfl ?_|fail)
      rw [hLL]
      exact PA.lp (A1 ++ B1) ⟨by repeat first|trivial|refine ⟨rfl,?_⟩,by repeat first|exact .nil|refine .cons (by repeat first|exact .here|apply Take.there) ?_⟩ ⟨List.Perm.refl _, hss⟩
    · have hy := hc.1 rfl
      have hre := ih v L2 p A1 B1 (A2 ++ (B2 ++ q)) a s mid (by omega) hL2 ha (by omega) (by omega) (by omega) (by omega) sA1 sB1 (by omega)
      repeat' (first|refine Sp.h ?_|refine Lk.r rfl ?_|refine Rf.mk rfl ?_|fail)
      (apply Cl.use (hre);(focus repeat' (first|exact Lend.nil|apply Lend.keep|fail));(focus (repeat (first|exact Takes.nil|(apply Takes.cons;(focus repeat first|exact .here|apply Take.there)))));(focus rfl))
      rintro _ _ ⟨S1, rfl, rfl, h1, h2⟩
      repeat' (first|refine Sp.h ?_|fail)
      exact PA.lp S1 ⟨by repeat first|trivial|refine ⟨rfl,?_⟩,by repeat first|exact .nil|refine .cons (by repeat first|exact .here|apply Take.there) ?_⟩ ⟨h1, h2⟩
  rintro S1 ⟨p1, s1⟩
  simp only
  have l1 := p1.length_eq
  rw [List.length_append] at l1
  (repeat' (first|(show CA _ _ (Code.region 43 _ _) _ _;apply Stopped.out)|refine Sp.h ?_|fail));any_goals apply Stopped.mk
  refine CA.cut (fun c : Bool => ⟨[(0, .ow v), (3, it b), (4, .fn 144 []), (18, it mid), (24, it E), (213, bl c)], [eR v (p ++ (S1 ++ (A2 ++ (B2 ++ q))))]⟩) (fun c => c = true ↔ mid < E ∧ E < b) ?_ ?_
  · repeat' (first|refine Sp.h ?_|refine Lk.r rfl ?_|refine Rf.mk rfl ?_|(apply Bd.t;(focus first|assumption|omega|rfl))|(apply Bd.f;(focus first|assumption|omega|exact Bool.false_ne_true))|(refine Bd.mk ?_ ?_ <;> intro _)|fail)
    all_goals exact PA.lp _ ⟨by repeat first|trivial|refine ⟨rfl,?_⟩,by repeat first|exact .nil|refine .cons (by repeat first|exact .here|apply Take.there) ?_⟩ (by simp;omega)
  rintro c hc
  simp only
  have hfin : ∀ S2, (A2 ++ B2).Perm S2 → SrtE S2 → (A ++ B).Perm (S1 ++ S2) ∧ SrtE (S1 ++ S2) := fun S2 p2 s2 => by
    refine ⟨?_, List.pairwise_append.2 ⟨s1, s2, fun x hx y hy => ?_⟩⟩
    · rw [hA12, hB12]
      exact (perm4 A1 A2 B1 B2).trans (List.Perm.append p1 p2)
    · have hx := p1.mem_iff.2 hx
      have hy := p2.mem_iff.2 hy
      rcases List.mem_append.1 hx with hx|hx <;> rcases List.mem_append.1 hy with hy|hy
      · exact sA3 x hx y hy
      · exact c1 x hx y hy
      · exact (c2 y hy x hx).asymm
      · exact sB3 x hx y hy
  cases c
  · have hn : ¬ (mid < E ∧ E < b) := fun h => by have := hc.2 h;cases this
    have hss : SrtE (A2 ++ B2) := by
      by_cases h : E ≤ mid
      · have : A2 = [] := List.eq_nil_of_length_eq_zero (by omega)
        subst this;simpa using sB2
      · have : B2 = [] := List.eq_nil_of_length_eq_zero (by omega)
        subst this;simpa using sA2
    repeat' (first|refine Sp.h ?_|refine Lk.r rfl ?_|(apply Nm.r;focus repeat first|apply LN.cons|exact LN.nil)|fail)
    refine ⟨_, [eR v (p ++ (S1 ++ (A2 ++ (B2 ++ q))))], .tup (.nil (by (repeat first|exact .nil|refine .cons (by repeat first|exact .here|apply Take.there) ?_))), S1 ++ (A2 ++ B2), rfl, by simp, hfin _ (List.Perm.refl _) hss⟩
  · have hy := hc.1 rfl
    have hre := ih v (p ++ (S1 ++ (A2 ++ (B2 ++ q)))) (p ++ S1) A2 B2 q mid E b (by omega) (by simp) (by rw [List.length_append];omega) (by rw [List.length_append];omega) (by rw [List.length_append];omega) (by omega) (by omega) sA2 sB2 (by simp only [List.length_append];omega)
    repeat' (first|refine Sp.h ?_|refine Lk.r rfl ?_|refine Rf.mk rfl ?_|fail)
    (apply Cl.use (hre);(focus repeat' (first|exact Lend.nil|apply Lend.keep|fail));(focus (repeat (first|exact Takes.nil|(apply Takes.cons;(focus repeat first|exact .here|apply Take.there)))));(focus rfl))
    rintro _ _ ⟨S2, rfl, rfl, h1, h2⟩
    repeat' (first|refine Sp.h ?_|(apply Nm.r;focus repeat first|apply LN.cons|exact LN.nil)|fail)
    refine ⟨_, [eR v (p ++ S1 ++ (S2 ++ q))], .tup (.nil (by (repeat first|exact .nil|refine .cons (by repeat first|exact .here|apply Take.there) ?_))), S1 ++ S2, rfl, by simp, hfin _ h1 h2⟩
end Go.Proofs.YtmllihbhphnolaaGreat
namespace Go.Proofs.YtmllihbhphnolaaGreat
open Go Go.CF
set_option maxRecDepth 20000
theorem pw_uniq {α : Type} {R : α → α → Prop} (has : ∀ a b, R a b → ¬ R b a) : ∀ s t : List α, s.Pairwise R → t.Pairwise R → (∀ x, x ∈ s ↔ x ∈ t) → s = t := by
  intro s
  induction s with
  | nil =>
    intro t _ _ h
    cases t with
    | nil => rfl
    | cons b t => exact absurd ((h b).2 (by simp)) (by simp)
  | cons a s ih =>
    intro t hs ht h
    cases t with
    | nil => exact absurd ((h a).1 (by simp)) (by simp)
    | cons b t =>
      obtain ⟨h1, h2⟩ := List.pairwise_cons.1 hs
      obtain ⟨h3, h4⟩ := List.pairwise_cons.1 ht
      have hab : a = b := by
        rcases List.mem_cons.1 ((h a).1 (by simp)) with e|e
        · exact e
        · rcases List.mem_cons.1 ((h b).2 (by simp)) with e2|e2
          · exact e2.symm
          · exact absurd (h3 a e) (has _ _ (h1 b e2))
      subst hab
      rw [ih t h2 h4 fun x => ?_]
      have := h x
      simp only [List.mem_cons] at this
      constructor
      · intro hx
        rcases this.1 (.inr hx) with e|e
        · subst e;exact absurd (h1 _ hx) (fun h9 => has _ _ h9 h9)
        · exact e
      · intro hx
        rcases this.2 (.inr hx) with e|e
        · subst e;exact absurd (h3 _ hx) (fun h9 => has _ _ h9 h9)
        · exact e
theorem LtK_asymm (a b : MkS) : LtK a b → ¬ LtK b a := by unfold LtK;omega
end Go.Proofs.YtmllihbhphnolaaGreat
namespace Go.Proofs.YtmllihbhphnolaaGreat
open Go Go.CF
set_option maxRecDepth 20000
theorem symMerge_a (v : Value) (L p A B q : List EvS) (a m b : Int) (hL : L = p ++ (A ++ (B ++ q))) (ha : a = p.length) (hm : m = p.length + A.length) (hb : b = p.length + A.length + B.length) (hA : 0 < A.length) (hB : 0 < B.length) (sA : SrtE A) (sB : SrtE B) (hl : L.length ≤ 100000) :
    CallA Tryz.prog 267 [.ow v, it a, it m, it b, .fn 144 []] [eR v L] fun r o => ∃ S, r = .tup [] ∧ o = [eR v (p ++ (S ++ q))] ∧ (A ++ B).Perm S ∧ SrtE S := by
  obtain ⟨A', rfl⟩ : ∃ A : Nat, a = A := ⟨_, ha⟩
  obtain ⟨M, rfl⟩ : ∃ M : Nat, m = M := ⟨p.length + A.length, by omega⟩
  obtain ⟨B', rfl⟩ : ∃ B : Nat, b = B := ⟨p.length + A.length + B.length, by omega⟩
  exact symMerge_n _ v L p A B q A' M B' (Nat.le_refl _) hL (by omega) (by omega) (by omega) hA hB sA sB hl
inductive Bks (w : Nat) : List EvS → Prop
  | last {l : List EvS} : l.length ≤ w → SrtE l → Bks w l
  | cons {c l : List EvS} : c.length = w → SrtE c → Bks w l → Bks w (c ++ l)
theorem Bks.one {w : Nat} {l : List EvS} (h : Bks w l) (hl : l.length ≤ w) : SrtE l := by
  cases h with
  | last _ h => exact h
  | @cons c l h1 h2 _ =>
    rw [List.length_append] at hl
    have : l = [] := List.eq_nil_of_length_eq_zero (by omega)
    subst this;simpa using h2
theorem Bks.two {w : Nat} {l : List EvS} (h : Bks w l) (hl : w < l.length) : ∃ c m, l = c ++ m ∧ c.length = w ∧ SrtE c ∧ Bks w m := by
  cases h with
  | last h _ => omega
  | @cons c l h1 h2 h3 => exact ⟨c, l, rfl, h1, h2, h3⟩
set_option maxHeartbeats 4000000 in
theorem stable_a (v : Value) (L : List EvS) (hl : L.length ≤ 10000) :
    CallA Tryz.prog 223 [.ow v, it (L.length : Nat), .fn 144 []] [eR v L] fun r o => ∃ S, r = .tup [] ∧ o = [eR v S] ∧ L.Perm S ∧ SrtE S := by
  obtain ⟨n, hn⟩ : ∃ n, n = L.length := ⟨_, rfl⟩
  rw [← hn]
  refine CallA.of pg ord223 Tryz.func223 rfl Tryz.ntmps223 Tryz.results223 rfl fun h0 G0 O0 => ?_
  repeat' (first|refine Sp.h ?_|refine Lk.r rfl ?_|refine Rf.mk rfl ?_|fail)
  refine CA.loop (fun s : Nat × List EvS => ⟨[(0, .ow v), (1, it n), (2, .fn 144 []), (6, it 20), (7, it s.1), (8, it ((s.1 + 20 : Nat) : Int))], [eR v s.2]⟩)
    (fun s => ∃ P R, s.2 = P ++ R ∧ s.1 = P.length ∧ L.Perm s.2 ∧ ∀ Q, Bks 20 Q → Bks 20 (P ++ Q)) (fun s => n - s.1) (0, L) ⟨by repeat first|trivial|refine ⟨rfl,?_⟩,by repeat first|exact .nil|refine .cons (by repeat first|exact .here|apply Take.there) ?_⟩ ⟨[], L, rfl, rfl, List.Perm.refl _, fun Q h => h⟩ ?_
  rintro ⟨a, D⟩ ⟨P, R, h1, h2, h3, h4⟩
  simp only at h1 h2 h3
  simp only
  have hDl := h3.length_eq
  have hPR := congrArg List.length h1
  rw [List.length_append] at hPR
  by_cases han : a + 20 ≤ n
  · obtain ⟨A, R', rfl, hA⟩ := split_at R 20 (by omega)
    have hin := insSort_a v D P A R' a ((a + 20 : Nat) : Int) (by rw [h1];simp) (by omega) (by omega) (by omega)
    repeat' (first|refine Sp.h ?_|refine Lk.r rfl ?_|refine Rf.mk rfl ?_|(apply Bd.t;(focus first|assumption|omega|rfl))|fail)
    (apply Cl.use (hin);(focus repeat' (first|exact Lend.nil|apply Lend.keep|fail));(focus (repeat (first|exact Takes.nil|(apply Takes.cons;(focus repeat first|exact .here|apply Take.there)))));(focus rfl))
    rintro _ _ ⟨L', S, rfl, rfl, g1, g2, g3⟩
    have hSl := g2.length_eq
    repeat' (first|refine Sp.h ?_|refine Lk.r rfl ?_|refine Rf.mk rfl ?_|(apply Ov.n;(focus first|omega|(simp <;> omega)))|fail)
    refine PA.lp (a + 20, L') ⟨by repeat first|trivial|refine ⟨rfl,?_⟩,by repeat first|exact .nil|refine .cons (by repeat first|exact .here|apply Take.there) ?_⟩ ⟨⟨P ++ S, R', g1, by simp;omega, h3.trans ?_, fun Q hQ => ?_⟩, by simp only;omega⟩
    · simp only
      rw [h1, g1, ← List.append_assoc]
      exact List.Perm.append_right R' (List.Perm.append_left P g2)
    · rw [List.append_assoc]
      exact h4 _ (.cons (by omega) g3 hQ)
  have hin := insSort_a v D P R [] a n (by rw [h1];simp) (by omega) (by omega) (by omega)
  repeat' (first|refine Sp.h ?_|refine Lk.r rfl ?_|refine Rf.mk rfl ?_|(apply Bd.f;(focus first|assumption|omega|exact Bool.false_ne_true))|fail)
  (apply Cl.use (hin);(focus repeat' (first|exact Lend.nil|apply Lend.keep|fail));(focus (repeat (first|exact Takes.nil|(apply Takes.cons;(focus repeat first|exact .here|apply Take.there)))));(focus rfl))
  rintro _ _ ⟨L', S, rfl, rfl, g1, g2, g3⟩
  have hSl := g2.length_eq
  have hB : Bks 20 L' := by rw [g1, List.append_nil];exact h4 _ (.last (by omega) g3)
  have hP' : L.Perm L' := h3.trans (by rw [h1, g1, List.append_nil];exact List.Perm.append_left P g2)
  repeat' (first|refine Sp.h ?_|fail)
  refine CA.loop (fun s : Nat × List EvS => ⟨[(0, .ow v), (1, it n), (2, .fn 144 []), (6, it s.1)], [eR v s.2]⟩)
    (fun s => 0 < s.1 ∧ s.1 ≤ 20000 ∧ L.Perm s.2 ∧ Bks s.1 s.2) (fun s => n - s.1) (20, L') ⟨by repeat first|trivial|refine ⟨rfl,?_⟩,by repeat first|exact .nil|refine .cons (by repeat first|exact .here|apply Take.there) ?_⟩ ⟨by simp only;omega, by simp only;omega, hP', hB⟩ ?_
  clear h1 h2 h3 h4 hDl hPR han hin g1 g2 g3 hSl hB hP'
  clear S P R a D L'
  rintro ⟨w, D⟩ ⟨h1, h2, h3, h4⟩
  simp only at h1 h2 h3 h4
  simp only
  have hDl := h3.length_eq
  by_cases hwn : w < n
  rotate_left
  · repeat' (first|refine Sp.h ?_|refine Lk.r rfl ?_|refine Rf.mk rfl ?_|(apply Bd.f;(focus first|assumption|omega|exact Bool.false_ne_true))|(apply Nm.r;focus repeat first|apply LN.cons|exact LN.nil)|fail)
    exact ⟨_, [eR v D], .tup (.nil (by (repeat first|exact .nil|refine .cons (by repeat first|exact .here|apply Take.there) ?_))), D, rfl, rfl, h3, h4.one (by omega)⟩
  repeat' (first|refine Sp.h ?_|refine Lk.r rfl ?_|refine Rf.mk rfl ?_|(apply Bd.t;(focus first|assumption|omega|rfl))|(apply Om.mk;(focus first|omega|(simp <;> omega)))|fail)
  refine CA.loop (fun s : Nat × Nat × List EvS => ⟨[(0, .ow v), (1, it n), (2, .fn 144 []), (6, it w), (7, it s.1), (8, it s.2.1)], [eR v s.2.2]⟩)
    (fun s => s.2.1 = s.1 + 2 * w ∧ ∃ P R, s.2.2 = P ++ R ∧ s.1 = P.length ∧ L.Perm s.2.2 ∧ Bks w R ∧ ∀ Q, Bks (2 * w) Q → Bks (2 * w) (P ++ Q)) (fun s => n - s.1) (0, 2 * w, D) ⟨by repeat first|trivial|refine ⟨rfl,?_⟩,by repeat first|exact .nil|refine .cons (by repeat first|exact .here|apply Take.there) ?_⟩ ⟨by simp, [], D, rfl, rfl, h3, h4, fun Q h => h⟩ ?_
  clear h3 h4 hDl
  clear D
  rintro ⟨a, b, D⟩ ⟨hb, P, R, g1, g2, g3, g4, g5⟩
  simp only at hb g1 g2 g3
  subst hb
  simp only
  have hDl := g3.length_eq
  have hPR := congrArg List.length g1
  rw [List.length_append] at hPR
  by_cases han : a + 2 * w ≤ n
  · obtain ⟨c1, R1, rfl, k1, k2, k3⟩ := g4.two (by omega)
    rw [List.length_append] at hPR
    have hk : ∃ c2 R2, R1 = c2 ++ R2 ∧ c2.length = w ∧ SrtE c2 ∧ Bks w R2 := by
      by_cases h : w < R1.length
      · exact k3.two h
      · exact ⟨R1, [], by simp, by omega, k3.one (by omega), .last (by simp) List.Pairwise.nil⟩
    obtain ⟨c2, R2, rfl, k4, k5, k6⟩ := hk
    have hsm := symMerge_a v D P c1 c2 R2 a ((a : Int) + (w : Int)) ((a + 2 * w : Nat) : Int) g1 (by omega) (by omega) (by omega) (by omega) (by omega) k2 k5 (by omega)
    repeat' (first|refine Sp.h ?_|refine Lk.r rfl ?_|refine Rf.mk rfl ?_|(apply Bd.t;(focus first|assumption|omega|rfl))|(apply Ov.n;(focus first|omega|(simp <;> omega)))|fail)
    (apply Cl.use (hsm);(focus repeat' (first|exact Lend.nil|apply Lend.keep|fail));(focus (repeat (first|exact Takes.nil|(apply Takes.cons;(focus repeat first|exact .here|apply Take.there)))));(focus rfl))
    rintro _ _ ⟨S, rfl, rfl, p1, p2⟩
    have hSl := p1.length_eq
    rw [List.length_append] at hSl
    repeat' (first|refine Sp.h ?_|refine Lk.r rfl ?_|refine Rf.mk rfl ?_|(apply Om.mk;(focus first|omega|(simp <;> omega)))|(apply Ov.n;(focus first|omega|(simp <;> omega)))|fail)
    refine PA.lp (a + 2 * w, a + 2 * w + 2 * w, P ++ (S ++ R2)) ⟨by repeat first|trivial|refine ⟨rfl,?_⟩,by repeat first|exact .nil|refine .cons (by repeat first|exact .here|apply Take.there) ?_⟩ ⟨⟨rfl, P ++ S, R2, by simp, by simp;omega, g3.trans ?_, k6, fun Q hQ => ?_⟩, by simp only;omega⟩
    · simp only
      rw [g1]
      refine List.Perm.append_left P ?_
      rw [← List.append_assoc]
      exact List.Perm.append_right R2 p1
    · rw [List.append_assoc]
      exact g5 _ (.cons (by omega) p2 hQ)
  · by_cases hmn : a + w < n
    · obtain ⟨c1, R1, rfl, k1, k2, k3⟩ := g4.two (by omega)
      rw [List.length_append] at hPR
      have hsm := symMerge_a v D P c1 R1 [] a ((a : Int) + (w : Int)) n (by rw [g1];simp) (by omega) (by omega) (by omega) (by omega) (by omega) k2 (k3.one (by omega)) (by omega)
      repeat' (first|refine Sp.h ?_|refine Lk.r rfl ?_|refine Rf.mk rfl ?_|(apply Bd.t;(focus first|assumption|omega|rfl))|(apply Bd.f;(focus first|assumption|omega|exact Bool.false_ne_true))|(apply Ov.n;(focus first|omega|(simp <;> omega)))|fail)
      (apply Cl.use (hsm);(focus repeat' (first|exact Lend.nil|apply Lend.keep|fail));(focus (repeat (first|exact Takes.nil|(apply Takes.cons;(focus repeat first|exact .here|apply Take.there)))));(focus rfl))
      rintro _ _ ⟨S, rfl, rfl, p1, p2⟩
      have hSl := p1.length_eq
      rw [List.length_append] at hSl
      repeat' (first|refine Sp.h ?_|refine Lk.r rfl ?_|refine Rf.mk rfl ?_|(apply Om.mk;(focus first|omega|(simp <;> omega)))|fail)
      refine PA.lp (w * 2, P ++ (S ++ [])) ⟨by repeat first|trivial|refine ⟨rfl,?_⟩,by repeat first|exact .nil|refine .cons (by repeat first|exact .here|apply Take.there) ?_⟩ ⟨⟨by simp only;omega, by simp only;omega, ?_, ?_⟩, by simp only;omega⟩
      · simp only
        rw [List.append_nil]
        exact g3.trans (by rw [g1];exact List.Perm.append_left P p1)
      · simp only
        rw [List.append_nil, Nat.mul_comm]
        exact g5 _ (.last (by omega) p2)
    · repeat' (first|refine Sp.h ?_|refine Lk.r rfl ?_|refine Rf.mk rfl ?_|(apply Bd.f;(focus first|assumption|omega|exact Bool.false_ne_true))|(apply Om.mk;(focus first|omega|(simp <;> omega)))|(apply Ov.n;(focus first|omega|(simp <;> omega)))|fail)
      refine PA.lp (w * 2, D) ⟨by repeat first|trivial|refine ⟨rfl,?_⟩,by repeat first|exact .nil|refine .cons (by repeat first|exact .here|apply Take.there) ?_⟩ ⟨⟨by simp only;omega, by simp only;omega, g3, ?_⟩, by simp only;omega⟩
      simp only
      rw [g1, Nat.mul_comm]
      exact g5 _ (.last (by omega) (g4.one (by omega)))
theorem sortStable_a (v : Value) (L : List EvS) (hl : L.length ≤ 10000) :
    CallA Tryz.prog 143 [.ow v, .fn 144 []] [eR v L] fun r o => ∃ S, r = .tup [] ∧ o = [eR v S] ∧ L.Perm S ∧ SrtE S := by
  have h := stable_a v L hl
  refine CallA.of pg ord143 Tryz.func143 rfl Tryz.ntmps143 Tryz.results143 rfl fun h0 G0 O0 => ?_
  repeat' (first|refine Sp.h ?_|refine Lk.r rfl ?_|refine Rf.mk rfl ?_|(apply TkA.r;(focus repeat first|exact .here|apply Take.there))|fail)
  (apply Cl.use (h);(focus repeat' (first|exact Lend.nil|apply Lend.keep|fail));(focus (repeat (first|exact Takes.nil|(apply Takes.cons;(focus repeat first|exact .here|apply Take.there)))));(focus rfl))
  rintro _ _ ⟨S, rfl, rfl, h1, h2⟩
  repeat' (first|refine Sp.h ?_|(apply Nm.r;focus repeat first|apply LN.cons|exact LN.nil)|fail)
  exact ⟨_, [eR v S], .tup (.nil (by (repeat first|exact .nil|refine .cons (by repeat first|exact .here|apply Take.there) ?_))), S, rfl, rfl, h1, h2⟩
theorem cloneE_o (l : List EvS) (hl : l.length ≤ 1000000000) : CallO Tryz.prog 126 [evs l] 37 13 l evC := by
  refine CallA.of pg ord126 Tryz.func126 rfl Tryz.ntmps126 Tryz.results126 rfl fun h0 G0 O0 => ?_
  repeat' (first|refine Sp.h ?_|refine Lk.r rfl ?_|refine Rf.mk rfl ?_|(refine Bd.mk ?_ ?_ <;> intro _)|(apply Om.mk;(focus first|omega|(simp <;> omega)))|(refine Im.mk ?_;intro _)|(refine All.mk ?_;intro _)|(apply TkA.r;(focus repeat first|exact .here|apply Take.there))|refine Ce.l rfl ?_|(apply Fk.r;(focus (repeat (first|exact FillA.nil|(apply FillA.agg;(focus rfl);(focus rfl);(focus (repeat (first|exact SetAs.z|(apply SetAs.c;(focus (repeat first|assumption|exact SetA.z|apply SetA.s)))))))|(apply FillA.one;(focus rfl);(focus infer_instance);(focus (repeat first|assumption|exact SetA.z|apply SetA.s)))))))|(apply Nm.r;focus repeat first|apply LN.cons|exact LN.nil)|refine Rf.mk ⟨rfl, rfl⟩ ?_|refine Rf.mk ⟨rfl, rfl, rfl⟩ ?_|refine Mp.same ?_|fail)
  · rename_i b hb hbt
    have hl0 : l = [] := Decidable.byContradiction fun h => by rw [hb h] at hbt;cases hbt
    subst hl0
    exact ⟨_, _, .one (.nils (.nil (by (repeat first|exact .nil|refine .cons (by repeat first|exact .here|apply Take.there) ?_)))), _, rfl, rfl⟩
  · repeat' (first|fail)
    exact ⟨_, _, .one (.same (.nil (by (repeat first|exact .nil|refine .cons (by repeat first|exact .here|apply Take.there) ?_)))), _, rfl, rfl⟩
noncomputable def ordE (l : List EvS) : List EvS := l.mergeSort fun a b => decide (¬ LtE b a)
theorem ordE_perm (l : List EvS) : l.Perm (ordE l) := (List.mergeSort_perm _ _).symm
theorem ordE_srt (l : List EvS) : SrtE (ordE l) := by
  have := List.pairwise_mergeSort (le := fun a b : EvS => decide (¬ LtE b a)) (fun a b c h1 h2 => by simp [LtE] at *;omega) (fun a b => by simp [LtE];omega) l
  exact this.imp fun h => by simpa using h
theorem srt_lt {l : List EvS} (hu : Uniq l) {S : List EvS} (hp : l.Perm S) (hs : SrtE S) : S.Pairwise LtE := by
  have hu1 : l.Pairwise fun a b => nm a ≠ nm b := by
    rw [List.pairwise_iff_getElem]
    intro i j hi hj hij h
    have := hu i j _ _ (List.getElem?_eq_getElem hi) (List.getElem?_eq_getElem hj) h
    omega
  have hu2 : S.Pairwise fun a b => nm a ≠ nm b := hp.pairwise hu1 (fun h => h.symm)
  refine (hs.and hu2).imp fun ⟨h1, h2⟩ => ?_
  simp only [nm, ne_eq, List.cons.injEq, and_true] at h2
  unfold LtE at *
  omega
theorem ordE_uniq {l S : List EvS} (hu : Uniq l) (hp : l.Perm S) (hs : SrtE S) : S = ordE l :=
  pw_uniq (fun _ _ => LtE.asymm) _ _ (srt_lt hu hp hs) (srt_lt hu (ordE_perm l) (ordE_srt l)) fun _ => (hp.mem_iff).symm.trans (ordE_perm l).mem_iff
theorem order_o (l : List EvS) (hu : Uniq l) (hl : l.length ≤ 10000) : CallO Tryz.prog 74 [evs l] 37 13 (ordE l) evC := by
  have hc := cloneE_o l (by omega)
  refine CallA.of pg ord74 Tryz.func74 rfl Tryz.ntmps74 Tryz.results74 rfl fun h0 G0 O0 => ?_
  repeat' (first|refine Sp.h ?_|refine Lk.r rfl ?_|refine Rf.mk rfl ?_|fail)
  (apply Cl.use (hc);(focus repeat' (first|exact Lend.nil|apply Lend.keep|fail));(focus (repeat (first|exact Takes.nil|(apply Takes.cons;(focus repeat first|exact .here|apply Take.there)))));(focus rfl))
  rintro _ _ ⟨w, rfl, rfl⟩
  have hs := sortStable_a w l hl
  repeat' (first|refine Sp.h ?_|refine Lk.r rfl ?_|refine Rf.mk rfl ?_|fail)
  (apply Cl.use (hs);(focus repeat' (first|exact Lend.nil|apply Lend.keep|fail));(focus (repeat (first|exact Takes.nil|(apply Takes.cons;(focus repeat first|exact .here|apply Take.there)))));(focus rfl))
  rintro _ _ ⟨S, rfl, rfl, h1, h2⟩
  rw [ordE_uniq hu h1 h2]
  repeat' (first|refine Sp.h ?_|refine Lk.r rfl ?_|refine Rf.mk rfl ?_|(apply Nm.r;focus repeat first|apply LN.cons|exact LN.nil)|fail)
  exact ⟨_, _, .one (.same (.nil (by (repeat first|exact .nil|refine .cons (by repeat first|exact .here|apply Take.there) ?_)))), _, rfl, rfl⟩
theorem order_p (l : List EvS) (hu : Uniq l) (hl : l.length ≤ 10000) : CallP Tryz.prog 74 [evs l] (evs (ordE l)) :=
  CallA.fz (T := 37) (by rw [← (ordE_perm l).length_eq];omega) (order_o l hu hl)
end Go.Proofs.YtmllihbhphnolaaGreat
namespace Go.Proofs.YtmllihbhphnolaaGreat
open Go Go.CF
set_option maxRecDepth 20000
def updE (m : ModS) (e : EvS) (i : Nat) : Option UpS := if e.kind = 0 then updF (usF m e) i else none
noncomputable def mkE (t : TblS) (e : EvS) (u : UpS) : MkS := ⟨e.rep, e.num, e.time, if isReg t.kind then u.2.2 else 0⟩
def bK (k : Int) : Int := if k = 2 then 0 else if k = 3 then 1 else 2
def kK (k : Int) : Int := if k = 2 then 1 else if k = 3 then 0 else 2
def Asg (m : ModS) (t : TblS) (i : Nat) (P : List EvS) (x : MkS) : Prop := ∃ e ∈ P, ∃ u, updE m e i = some u ∧ u.1 = bK t.kind ∧ x = mkE t e u
def Liv (m : ModS) (t : TblS) (i : Nat) (P : List EvS) (x : MkS) : Prop := ∃ e ∈ P, ∃ u, updE m e i = some u ∧ u.1 = bK t.kind ∧ x = mkE t e u ∧ ∀ d ∈ P, ∀ w, updE m d i = some w → w.1 = kK t.kind → ¬ HasC d.past e.rep e.num
def PutP (m : ModS) (t : TblS) (i : Nat) (P : List EvS) : Prop := t.kind = 3 ∧ ∃ e ∈ P, ∃ u, updE m e i = some u ∧ u.1 = 0
def Kn4 (m : ModS) (t : TblS) (i : Nat) (P : List EvS) (l : List MkS) : Prop := (l = [] ∧ ∀ x, ¬ Asg m t i P x) ∨ ∃ x, l = [x] ∧ Asg m t i P x ∧ ∀ y, Asg m t i P y → ¬ LtK x y
structure Kn (m : ModS) (t : TblS) (i : Nat) (P : List EvS) (g : MgS) : Prop where
  put : g.put = true ↔ PutP m t i P
  drop : g.drop = false
  srt : g.marks.Pairwise LtK
  four : t.kind = 4 → Kn4 m t i P g.marks
  liv : t.kind ≠ 4 → ∀ x, x ∈ g.marks ↔ Liv m t i P x
def UniqP (P : List EvS) : Prop := ∀ a ∈ P, ∀ b ∈ P, a.rep = b.rep → a.num = b.num → a = b
theorem asg_nm {m : ModS} {t : TblS} {i : Nat} {P : List EvS} (hu : UniqP P) {x y : MkS} (hx : Asg m t i P x) (hy : Asg m t i P y) (hn : Nm x y) : x = y := by
  obtain ⟨e, he, u, h1, _, rfl⟩ := hx
  obtain ⟨d, hd, w, h3, _, rfl⟩ := hy
  have := hu e he d hd hn.1 hn.2
  subst this
  rw [h1] at h3;cases h3;rfl
theorem liv_asg {m : ModS} {t : TblS} {i : Nat} {P : List EvS} {x : MkS} (h : Liv m t i P x) : Asg m t i P x := by
  obtain ⟨e, he, u, h1, h2, h3, _⟩ := h
  exact ⟨e, he, u, h1, h2, h3⟩
theorem Kn.mem {m : ModS} {t : TblS} {i : Nat} {P : List EvS} {g : MgS} (h : Kn m t i P g) {x : MkS} (hx : x ∈ g.marks) : Asg m t i P x := by
  by_cases k4 : t.kind = 4
  · rcases h.four k4 with ⟨h1, _⟩|⟨y, h1, h2, _⟩
    · rw [h1] at hx;cases hx
    · rw [h1, List.mem_singleton] at hx;subst hx;exact h2
  · exact liv_asg ((h.liv k4 x).1 hx)
structure Nxt (P : List EvS) (e : EvS) : Prop where
  nm : ∀ p ∈ P, ¬ (p.rep = e.rep ∧ p.num = e.num)
  past : ∀ p ∈ P, ¬ HasC p.past e.rep e.num
  tm : ∀ p ∈ P, ¬ (p.time = e.time ∧ p.rep = e.rep)
  self : ¬ HasC e.past e.rep e.num
theorem asg_snoc {m : ModS} {t : TblS} {i : Nat} {P : List EvS} {e : EvS} {x : MkS} : Asg m t i (P ++ [e]) x ↔ Asg m t i P x ∨ ∃ u, updE m e i = some u ∧ u.1 = bK t.kind ∧ x = mkE t e u := by
  unfold Asg
  simp only [List.mem_append, List.mem_singleton]
  constructor
  · rintro ⟨d, hd|rfl, h⟩
    · exact .inl ⟨d, hd, h⟩
    · exact .inr h
  · rintro (⟨d, hd, h⟩|h)
    · exact ⟨d, .inl hd, h⟩
    · exact ⟨e, .inr rfl, h⟩
theorem putP_snoc {m : ModS} {t : TblS} {i : Nat} {P : List EvS} {e : EvS} : PutP m t i (P ++ [e]) ↔ PutP m t i P ∨ t.kind = 3 ∧ ∃ u, updE m e i = some u ∧ u.1 = 0 := by
  unfold PutP
  simp only [List.mem_append, List.mem_singleton]
  constructor
  · rintro ⟨hk, d, hd|rfl, h⟩
    · exact .inl ⟨hk, d, hd, h⟩
    · exact .inr ⟨hk, h⟩
  · rintro (⟨hk, d, hd, h⟩|⟨hk, h⟩)
    · exact ⟨hk, d, .inl hd, h⟩
    · exact ⟨hk, e, .inr rfl, h⟩
theorem liv_snoc {m : ModS} {t : TblS} {i : Nat} {P : List EvS} {e : EvS} (hn : Nxt P e) {x : MkS} :
    Liv m t i (P ++ [e]) x ↔ (Liv m t i P x ∧ ∀ u, updE m e i = some u → u.1 = kK t.kind → ¬ HasC e.past x.rep x.num) ∨ ∃ u, updE m e i = some u ∧ u.1 = bK t.kind ∧ x = mkE t e u := by
  constructor
  · rintro ⟨d, hd, u, h1, h2, h3, h4⟩
    rcases List.mem_append.1 hd with hd|hd
    · refine .inl ⟨⟨d, hd, u, h1, h2, h3, fun d' hd' => h4 d' (List.mem_append.2 (.inl hd'))⟩, fun w hw hk => ?_⟩
      rw [h3];exact h4 e (by simp) w hw hk
    · rw [List.mem_singleton.1 hd] at h1 h3
      exact .inr ⟨u, h1, h2, h3⟩
  · rintro (⟨⟨d, hd, u, h1, h2, h3, h4⟩, h5⟩|⟨u, h1, h2, h3⟩)
    · refine ⟨d, List.mem_append.2 (.inl hd), u, h1, h2, h3, fun d' hd' w hw hk => ?_⟩
      rcases List.mem_append.1 hd' with hd' | hd'
      · exact h4 d' hd' w hw hk
      · rw [List.mem_singleton.1 hd'] at hw ⊢
        have := h5 w hw hk
        rw [h3] at this;exact this
    · refine ⟨e, by simp, u, h1, h2, h3, fun d' hd' w hw hk => ?_⟩
      rcases List.mem_append.1 hd' with hd' | hd'
      · exact hn.past d' hd'
      · rw [List.mem_singleton.1 hd'];exact hn.self
theorem ins_lt {l : List MkS} {x : MkS} (hs : l.Pairwise LtK) (hn : ¬ HasNm l x) : (insK l x).Pairwise LtK ∧ ∀ y, y ∈ insK l x ↔ y ∈ l ∨ y = x := by
  have hsK : SrtK l := hs.imp fun h => LtK_asymm _ _ h
  have hm := hsK.mono x
  have hlt : ∀ y ∈ l, LtK x y ∨ LtK y x := fun y hy => by
    have h : ¬ Nm y x := fun h => hn ⟨y, hy, h⟩
    unfold Nm at h;unfold LtK;omega
  have h1 : ∀ y ∈ l.take (posK l x), LtK y x := fun y hy => by
    obtain ⟨j, hj⟩ := List.getElem?_of_mem hy
    have hjl : j < posK l x := by have := (List.getElem?_eq_some_iff.1 hj).1;simp at this;omega
    rw [List.getElem?_take, if_pos hjl] at hj
    by_cases h9 : LtK y x
    · exact h9
    · have : idxN (fun y => decide (¬ LtK y x)) l ≤ j := by
        rcases Nat.lt_or_ge j (idxN (fun y => decide (¬ LtK y x)) l) with hlt9|h
        · exfalso
          have hle := idxN_le (fun y => decide (¬ LtK y x)) l
          by_cases hlen : idxN (fun y => decide (¬ LtK y x)) l < l.length
          · obtain ⟨z, _, _, hz3⟩ := idxN_at hlen
            have := hz3 j y hlt9 hj
            simp at this;exact h9 this
          · have hnone : ∀ z ∈ l, LtK z x := fun z hz => Classical.byContradiction fun h => hlen (idxN_lt.2 ⟨z, hz, by simpa using h⟩)
            exact h9 (hnone y (List.mem_of_getElem? hj))
        · exact h
      unfold posK at hjl;omega
  have h2 : ∀ y ∈ l.drop (posK l x), LtK x y := fun y hy => by
    obtain ⟨j, hj⟩ := List.getElem?_of_mem hy
    rw [List.getElem?_drop] at hj
    have hym := List.mem_of_getElem? hj
    refine (hlt y hym).resolve_right fun h9 => ?_
    have hp : posK l x < l.length := by have := (List.getElem?_eq_some_iff.1 hj).1;omega
    obtain ⟨z, hz, hz2, _⟩ := idxN_at (p := fun y => decide (¬ LtK y x)) (l := l) hp
    have hz2 : ¬ LtK z x := by simpa using hz2
    exact hz2 (hm _ _ z y (Nat.le_add_right (posK l x) j) hz hj h9)
  have htd := List.take_append_drop (posK l x) l
  have hs' := hs
  rw [← htd] at hs'
  obtain ⟨s1, s2, s3⟩ := List.pairwise_append.1 hs'
  refine ⟨List.pairwise_append.2 ⟨s1, List.pairwise_cons.2 ⟨h2, s2⟩, fun a ha b hb => ?_⟩, fun y => ?_⟩
  · rcases List.mem_cons.1 hb with rfl|hb
    · exact h1 a ha
    · exact s3 a ha b hb
  · rw [insK, List.mem_append, List.mem_cons]
    constructor
    · rintro (h|rfl|h)
      · exact .inl (List.mem_of_mem_take h)
      · exact .inr rfl
      · exact .inl (List.mem_of_mem_drop h)
    · rintro (h|rfl)
      · rw [← htd, List.mem_append] at h
        exact h.elim .inl fun h => .inr (.inr h)
      · exact .inr (.inl rfl)
end Go.Proofs.YtmllihbhphnolaaGreat
