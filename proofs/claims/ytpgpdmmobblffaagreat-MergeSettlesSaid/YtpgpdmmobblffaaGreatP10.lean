/- Part 10 of the ground of this proof: what its texts say of the model, the program and the plain data; conditions: those that are named. -/
import Derived.Test.YtpgpdmmobblffaaGreatP09
namespace Go.Proofs.YtpgpdmmobblffaaGreat
open Go Go.CF
set_option maxRecDepth 20000
noncomputable def setG (c : List Int) (t : TblS) (g : MgS) : MgS :=
  if isReg t.kind ∨ (fgK c g.marks).length = g.marks.length then g
  else if t.kind = 2 then ⟨true, g.drop, fgK c g.marks⟩ else ⟨g.put, true, fgK c g.marks⟩
noncomputable def setF (c : List Int) (ts : List TblS) (l : List MgS) : List MgS := (ts.zip l).map fun p => setG c p.1 p.2
theorem setF_len (c : List Int) (ts : List TblS) (l : List MgS) : (setF c ts l).length = min ts.length l.length := by simp [setF]
theorem setF_at {c : List Int} {ts : List TblS} {l : List MgS} {i : Nat} {t : TblS} {g : MgS} (ht : ts[i]? = some t) (hg : l[i]? = some g) : (setF c ts l)[i]? = some (setG c t g) := by
  rw [setF, List.getElem?_map, (List.getElem?_zip_eq_some (z := (t, g))).2 ⟨ht, hg⟩]; rfl
noncomputable def settleF (m : ModS) (l : List MgS) (c : List Int) : Int × List MgS := @ite _ (ValL (mrgF m) l ∧ ValC c) (Classical.propDecidable _) (0, setF c (mrgF m) l) (1, [])
theorem settleF_ok {m : ModS} {l : List MgS} {c : List Int} (h : ValL (mrgF m) l ∧ ValC c) : settleF m l c = (0, setF c (mrgF m) l) := @if_pos _ (Classical.propDecidable _) h _ _ _
theorem settleF_bad {m : ModS} {l : List MgS} {c : List Int} (h : ¬ (ValL (mrgF m) l ∧ ValC c)) : settleF m l c = (1, []) := @if_neg _ (Classical.propDecidable _) h _ _ _
theorem settle1_p (c : List Int) (x : MkS) : CallP Tryz.prog 50 [mA x, .ad [ints c] 0] (bl (decide (HasC c x.rep x.num))) := by
  refine CallA.of pg ord50 Tryz.func50 rfl Tryz.ntmps50 Tryz.results50 rfl fun h0 G0 O0 => ?_
  repeat' (first | refine Sp.h ?_ | refine Lk.r rfl ?_ | refine Rf.mk rfl ?_ | refine OpK.r rfl ?_ | (refine All.mk ?_; intro _) | (apply TkB.r; (focus (repeat (first | exact Take.here | apply Take.there)))) | refine Ch.l ⟨rfl, rfl⟩ ?_ | (apply Nm.r; (focus repeat (first | apply LN.cons | exact LN.nil))) | (apply CA.draw; (focus rfl); (focus kernel_rfl); (focus kernel_rfl); (focus repeat' (first | apply ON.one | exact ON.done | exact ON.none | apply ON.alt)); (focus rfl)) | fail | (apply Cl.p (dot_p _); (focus repeat' (first | exact Lend.nil | apply Lend.keep | fail))) | (apply Cl.p (hasC_p _ _ _); (focus repeat' (first | exact Lend.nil | apply Lend.keep | fail))))
  exact Fin.p rfl rfl
theorem set_same {α : Type} {D : List α} {i : Nat} {x : α} (hx : D[i]? = some x) : D.set i x = D := by
  apply List.ext_getElem?
  intro j
  have hl := (List.getElem?_eq_some_iff.1 hx).1
  rw [List.getElem?_set]
  split
  · rename_i hj; subst hj; first | rw [if_pos hl, hx] | rw [hx]
  · rfl
set_option maxHeartbeats 4000000 in
theorem settle_a (m : ModS) (l : List MgS) (c : List Int) (hm : MOK m) : CallA Tryz.prog 16 [mdl m, mgs l, ints c] [] (ApK (settleF m l c)) := by
  have hva := validM_p m l hm.lay
  have hvc := validC_p c
  have hce := cells_p m hm.lay
  by_cases hv : ValL (mrgF m) l ∧ ValC c
  rotate_left
  · rw [settleF_bad hv]
    refine CallA.of pg ord16 Tryz.func16 rfl Tryz.ntmps16 Tryz.results16 rfl fun h0 G0 O0 => ?_
    by_cases h1 : ValL (mrgF m) l
    · have h2 : ¬ ValC c := fun h => hv ⟨h1, h⟩
      repeat' (first | refine Sp.h ?_ | refine Lk.r rfl ?_ | refine Rf.mk rfl ?_ | (apply Bd.t; (focus (first | assumption | omega | rfl))) | (apply Bd.f; (focus (first | assumption | omega | exact Bool.false_ne_true))) | (refine All.mk ?_; intro _) | (apply TkB.r; (focus (repeat (first | exact Take.here | apply Take.there)))) | refine Ch.l ⟨rfl, rfl⟩ ?_ | (apply Nm.r; (focus repeat (first | apply LN.cons | exact LN.nil))) | fail | (apply Cl.p (hva); (focus repeat' (first | exact Lend.nil | apply Lend.keep | fail))) | (apply Cl.p (hvc); (focus repeat' (first | exact Lend.nil | apply Lend.keep | fail))))
      exact ⟨_, _, .tup (.same (.same (.nil (by (repeat (first | exact Subl.nil | refine Subl.cons (by (repeat (first | exact Take.here | apply Take.there))) ?_)))))), .inr ⟨by decide, rfl, rfl⟩⟩
    · repeat' (first | refine Sp.h ?_ | refine Lk.r rfl ?_ | refine Rf.mk rfl ?_ | (apply Bd.f; (focus (first | assumption | omega | exact Bool.false_ne_true))) | (refine All.mk ?_; intro _) | (apply TkB.r; (focus (repeat (first | exact Take.here | apply Take.there)))) | refine Ch.l ⟨rfl, rfl⟩ ?_ | (apply Nm.r; (focus repeat (first | apply LN.cons | exact LN.nil))) | fail | (apply Cl.p (hva); (focus repeat' (first | exact Lend.nil | apply Lend.keep | fail))) | (apply Cl.p (hvc); (focus repeat' (first | exact Lend.nil | apply Lend.keep | fail))))
      exact ⟨_, _, .tup (.same (.same (.nil (by (repeat (first | exact Subl.nil | refine Subl.cons (by (repeat (first | exact Take.here | apply Take.there))) ?_)))))), .inr ⟨by decide, rfl, rfl⟩⟩
  rw [settleF_ok hv]
  obtain ⟨h1, h2⟩ := hv
  have hlen := h1.1
  have hl : l.length ≤ 20 := by have := hm.mrg; omega
  have hcl := clone34_a l (by omega) (fun g hgm => by
    obtain ⟨i, hi⟩ := List.getElem?_of_mem hgm
    obtain ⟨t, ht⟩ := get_of (l := mrgF m) (i := i) (by have := (List.getElem?_eq_some_iff.1 hi).1; omega)
    have := valL_len h1 ht hi
    omega)
  refine CallA.of pg ord16 Tryz.func16 rfl Tryz.ntmps16 Tryz.results16 rfl fun h0 G0 O0 => ?_
  (repeat' (first | (show CA _ _ (Code.region 1 _ _) _ _; apply Stopped.out) | refine Sp.h ?_ | refine Lk.r rfl ?_ | refine Rf.mk rfl ?_ | (refine All.mk ?_; intro _) | fail | (apply Cl.p (hva); (focus repeat' (first | fail))))); any_goals apply Stopped.mk
  rename_i b3 b5
  apply CA.freezeB 5
  focus rfl
  focus (repeat (first | exact Take.here | apply Take.there))
  repeat' (first | refine Sp.h ?_ | refine Lk.r rfl ?_ | refine Rf.mk rfl ?_ | (apply Bd.t; (focus (first | assumption | omega | rfl))) | (apply TkB.r; (focus (repeat (first | exact Take.here | apply Take.there)))) | refine Ch.l ⟨rfl, rfl⟩ ?_ | fail | (apply Cl.p (hva); (focus repeat' (first | exact Lend.nil | apply Lend.keep | fail))) | (apply Cl.p (hvc); (focus repeat' (first | exact Lend.nil | apply Lend.keep | fail))))
  (apply Cl.use (hcl); (focus repeat' (first | exact Lend.nil | apply Lend.keep | fail)); (focus (repeat (first | exact Takes.nil | (apply Takes.cons; (focus (repeat (first | exact Take.here | apply Take.there))))))); (focus rfl))
  rintro _ _ ⟨v, L0, rfl, hL, rfl⟩
  repeat' (first | refine Sp.h ?_ | refine Lk.r rfl ?_ | refine Rf.mk rfl ?_ | (refine Im.mk ?_; intro _) | (apply TkB.r; (focus (repeat (first | exact Take.here | apply Take.there)))) | refine Ch.l ⟨rfl, rfl⟩ ?_ | fail | (apply Cl.p (hce); (focus repeat' (first | exact Lend.nil | apply Lend.keep | fail))))
  refine CA.loop (fun x : Nat × List MgE => ⟨[(5, .ad [ints c] 0), (8, .ow v), (25, tbls (mrgF m)), (26, it ((mrgF m).length : Nat)), (27, it x.1)],
      [arrR v 44 3 x.2 mgeC, bunR (x.2.map mgeR)]⟩)
    (fun x => x.1 ≤ l.length ∧ x.2.map MgE.g = (setF c (mrgF m) l).take x.1 ++ l.drop x.1) (fun x => l.length - x.1) (0, L0) ⟨by (repeat (first | exact trivial | refine ⟨rfl, ?_⟩)), by (repeat (first | exact Subl.nil | refine Subl.cons (by (repeat (first | exact Take.here | apply Take.there))) ?_))⟩ ⟨Nat.zero_le _, by simpa using hL⟩ ?_
  rintro ⟨i, D⟩ ⟨hi, hD⟩
  simp only at hi hD
  simp only
  by_cases hin : i < l.length
  · obtain ⟨g, hgi⟩ := get_of hin
    obtain ⟨t, hti⟩ := get_of (l := mrgF m) (i := i) (by omega)
    have hsl : ((setF c (mrgF m) l).take i).length = i := by rw [List.length_take, setF_len]; omega
    have hDi : (D.map MgE.g)[i]? = some g := by
      rw [hD, List.getElem?_append_right (by omega), List.getElem?_drop, hsl]
      simpa using hgi
    obtain ⟨x, hx, hxg⟩ : ∃ x, D[i]? = some x ∧ x.g = g := by
      rw [List.getElem?_map] at hDi
      cases hd : D[i]? with
      | none => rw [hd] at hDi; cases hDi
      | some x => rw [hd] at hDi; exact ⟨x, rfl, by simpa using hDi⟩
    have hDl := (List.getElem?_eq_some_iff.1 hx).1
    have hml : x.marks.length ≤ 1024 := by have := valL_len h1 hti hgi; rw [← hxg] at this; exact this
    have hreg := register_p t
    have hdel := deleteK_a (settle1_p c) rfl x.w x.marks (by omega)
    (repeat' (first | (show CA _ _ (Code.block 1 _) _ _; apply Stopped.out) | refine Sp.h ?_ | refine Lk.r rfl ?_ | refine Rf.mk rfl ?_ | (apply Bd.t; (focus (first | assumption | omega | rfl))) | fail)); any_goals apply Stopped.mk
    apply CA.bunTake (l := D) (g := mgeR) (i := i) (x := x)
    focus (repeat (first | exact Take.here | apply Take.there))
    focus exact hx
    refine CA.cut (fun p : List MgE × MgE => ⟨[(5, .ad [ints c] 0), (8, .ow v), (25, tbls (mrgF m)), (26, it ((mrgF m).length : Nat)), (27, it i)],
        [arrR v 44 3 p.1 mgeC, mgeR p.2, bunR ((D.eraseIdx i).map mgeR)]⟩) (fun p => p.1 = D.set i p.2 ∧ p.2.g = setG c t g) ?_ ?_
    · by_cases hr : isReg t.kind
      · have he : setG c t g = g := if_pos (.inl hr)
        rw [he]
        repeat' (first | refine Sp.h ?_ | refine Lk.r rfl ?_ | refine Rf.mk rfl ?_ | (apply Bd.t; (focus (first | assumption | omega | rfl))) | (refine All.mk ?_; intro _) | (apply TkB.r; (focus (repeat (first | exact Take.here | apply Take.there)))) | (apply Ix.q; (focus exact rfl); (focus assumption)) | refine Ch.l ⟨rfl, rfl⟩ ?_ | (apply SetAsk.r; (focus (repeat (first | exact SetAs.z | (apply SetAs.c; (focus (repeat (first | assumption | exact SetA.z | apply SetA.s)))))))) | (apply Nm.r; (focus repeat (first | apply LN.cons | exact LN.nil))) | fail | (apply Cl.p (hreg); (focus repeat' (first | exact Lend.nil | apply Lend.keep | fail))))
        exact PA.lp (D, x) ⟨by (repeat (first | exact trivial | refine ⟨rfl, ?_⟩)), by (repeat (first | exact Subl.nil | refine Subl.cons (by (repeat (first | exact Take.here | apply Take.there))) ?_))⟩ ⟨(set_same hx).symm, hxg⟩
      · repeat' (first | refine Sp.h ?_ | refine Lk.r rfl ?_ | refine Rf.mk rfl ?_ | (apply Bd.f; (focus (first | assumption | omega | exact Bool.false_ne_true))) | (refine All.mk ?_; intro _) | (apply TkA.r; (focus (repeat (first | exact Take.here | apply Take.there)))) | (apply TkB.r; (focus (repeat (first | exact Take.here | apply Take.there)))) | (apply Ix.q; (focus exact rfl); (focus assumption)) | (apply At.r; (focus assumption)) | refine Ch.l ⟨rfl, rfl⟩ ?_ | (apply SetAsk.r; (focus (repeat (first | exact SetAs.z | (apply SetAs.c; (focus (repeat (first | assumption | exact SetA.z | apply SetA.s)))))))) | (apply Nm.r; (focus repeat (first | apply LN.cons | exact LN.nil))) | fail | (apply Cl.p (hreg); (focus repeat' (first | exact Lend.nil | apply Lend.keep | fail))))
        (apply Cl.use (hdel); (focus repeat' (first | exact Lend.nil | apply Lend.keep | fail)); (focus (repeat (first | exact Takes.nil | (apply Takes.cons; (focus (repeat (first | exact Take.here | apply Take.there))))))); (focus rfl))
        rintro _ _ ⟨w', rfl, rfl⟩
        rename_i b10 _
        have hfe : (x.marks.filter fun y => !decide (HasC c y.rep y.num)) = fgK c g.marks := by rw [← hxg]; rfl
        rw [hfe]
        have inv : Inv mgeC [bl x.put, bl x.drop, .ow w'] ⟨x.put, x.drop, w', fgK c g.marks⟩ := ⟨rfl⟩
        have inv2 : Inv mgeC [bl true, bl x.drop, .ow w'] ⟨true, x.drop, w', fgK c g.marks⟩ := ⟨rfl⟩
        have inv3 : Inv mgeC [bl x.put, bl true, .ow w'] ⟨x.put, true, w', fgK c g.marks⟩ := ⟨rfl⟩
        have hxs : (D.set i ⟨x.put, x.drop, w', fgK c g.marks⟩)[i]? = some ⟨x.put, x.drop, w', fgK c g.marks⟩ := by rw [List.getElem?_set, if_pos rfl, if_pos hDl]
        have hxm : x.marks.length = g.marks.length := by rw [← hxg]; rfl
        by_cases hs : (fgK c g.marks).length = g.marks.length
        · have he : setG c t g = g := if_pos (.inr hs)
          have hg' : fgK c g.marks = g.marks := List.Sublist.eq_of_length List.filter_sublist hs
          repeat' (first | refine Sp.h ?_ | refine Lk.r rfl ?_ | refine Rf.mk rfl ?_ | (apply Bd.t; (focus (first | assumption | omega | rfl))) | (apply TkA.r; (focus (repeat (first | exact Take.here | apply Take.there)))) | (apply At.r; (focus assumption)) | (apply SetAk.r; (focus (repeat (first | assumption | exact SetA.z | apply SetA.s)))) | (apply Up.inv; (focus repeat (first | apply LN.cons | exact LN.nil)); (focus infer_instance)) | fail)
          exact PA.lp (D.set i ⟨x.put, x.drop, w', fgK c g.marks⟩, ⟨x.put, x.drop, w', fgK c g.marks⟩) ⟨by (repeat (first | exact trivial | refine ⟨rfl, ?_⟩)), by (repeat (first | exact Subl.nil | refine Subl.cons (by (repeat (first | exact Take.here | apply Take.there))) ?_))⟩ ⟨rfl, by rw [he, hg', ← hxg]; rfl⟩
        · have hn : ¬ (isReg t.kind ∨ (fgK c g.marks).length = g.marks.length) := fun h => h.elim hr hs
          by_cases k2 : t.kind = 2
          · have he : setG c t g = ⟨true, g.drop, fgK c g.marks⟩ := by rw [setG, if_neg hn, if_pos k2]
            repeat' (first | refine Sp.h ?_ | refine Lk.r rfl ?_ | refine Rf.mk rfl ?_ | (apply Bd.t; (focus (first | assumption | omega | rfl))) | (apply Bd.f; (focus (first | assumption | omega | exact Bool.false_ne_true))) | (apply TkA.r; (focus (repeat (first | exact Take.here | apply Take.there)))) | (apply TkB.r; (focus (repeat (first | exact Take.here | apply Take.there)))) | (apply At.r; (focus assumption)) | (apply SetAk.r; (focus (repeat (first | assumption | exact SetA.z | apply SetA.s)))) | (apply Up.inv; (focus repeat (first | apply LN.cons | exact LN.nil)); (focus infer_instance)) | fail)
            rw [List.set_set]
            exact PA.lp (D.set i ⟨true, x.drop, w', fgK c g.marks⟩, ⟨true, x.drop, w', fgK c g.marks⟩) ⟨by (repeat (first | exact trivial | refine ⟨rfl, ?_⟩)), by (repeat (first | exact Subl.nil | refine Subl.cons (by (repeat (first | exact Take.here | apply Take.there))) ?_))⟩ ⟨rfl, by rw [he, ← hxg]; rfl⟩
          · have he : setG c t g = ⟨g.put, true, fgK c g.marks⟩ := by rw [setG, if_neg hn, if_neg k2]
            repeat' (first | refine Sp.h ?_ | refine Lk.r rfl ?_ | refine Rf.mk rfl ?_ | (apply Bd.f; (focus (first | assumption | omega | exact Bool.false_ne_true))) | (apply TkA.r; (focus (repeat (first | exact Take.here | apply Take.there)))) | (apply TkB.r; (focus (repeat (first | exact Take.here | apply Take.there)))) | (apply At.r; (focus assumption)) | (apply SetAk.r; (focus (repeat (first | assumption | exact SetA.z | apply SetA.s)))) | (apply Up.inv; (focus repeat (first | apply LN.cons | exact LN.nil)); (focus infer_instance)) | fail)
            rw [List.set_set]
            exact PA.lp (D.set i ⟨x.put, true, w', fgK c g.marks⟩, ⟨x.put, true, w', fgK c g.marks⟩) ⟨by (repeat (first | exact trivial | refine ⟨rfl, ?_⟩)), by (repeat (first | exact Subl.nil | refine Subl.cons (by (repeat (first | exact Take.here | apply Take.there))) ?_))⟩ ⟨rfl, by rw [he, ← hxg]; rfl⟩
    · rintro ⟨D', x'⟩ ⟨hD', hx'⟩
      simp only at hD' hx'
      subst hD'
      simp only
      have hdr : l.drop i = g :: l.drop (i + 1) := by
        have h9 := List.drop_eq_getElem_cons hin
        rw [(List.getElem?_eq_some_iff.1 hgi).2] at h9
        exact h9
      have hA : (D.set i x').map MgE.g = (setF c (mrgF m) l).take (i + 1) ++ l.drop (i + 1) := by
        rw [List.map_set, hD, hx', hdr, List.set_append, if_neg (by omega), hsl, Nat.sub_self, List.set_cons_zero, List.take_add_one, setF_at hti hgi]
        simp
      (repeat' (first | (show CA _ _ (Code.region 15 _ _) _ _; apply Stopped.out) | refine Sp.h ?_ | fail)); any_goals apply Stopped.mk
      apply CA.bunPut (l := D) (g := mgeR) (i := i) (x := x')
      focus (repeat (first | exact Take.here | apply Take.there))
      focus (repeat (first | exact Take.here | apply Take.there))
      focus exact hDl
      repeat' (first | refine Sp.h ?_ | refine Lk.r rfl ?_ | refine Rf.mk rfl ?_ | (apply Ov.n; (focus first | omega | (simp <;> omega))) | fail)
      exact PA.lp (i + 1, D.set i x') ⟨by (repeat (first | exact trivial | refine ⟨rfl, ?_⟩)), by (repeat (first | exact Subl.nil | refine Subl.cons (by (repeat (first | exact Take.here | apply Take.there))) ?_))⟩ ⟨⟨hin, hA⟩, by simp only; omega⟩
  · have hie : i = l.length := by omega
    subst hie
    rw [List.drop_length, List.append_nil, List.take_of_length_le (by rw [setF_len]; omega)] at hD
    repeat' (first | refine Sp.h ?_ | refine Lk.r rfl ?_ | refine Rf.mk rfl ?_ | (apply Bd.f; (focus (first | assumption | omega | exact Bool.false_ne_true))) | (apply Nm.r; (focus repeat (first | apply LN.cons | exact LN.nil))) | fail)
    exact ⟨_, _, .tup (.same (.same (.nil (by (repeat (first | exact Subl.nil | refine Subl.cons (by (repeat (first | exact Take.here | apply Take.there))) ?_)))))), .inl ⟨v, D, rfl, rfl, rfl, hD⟩⟩
end Go.Proofs.YtpgpdmmobblffaaGreat
namespace Go.Proofs.YtpgpdmmobblffaaGreat
open Go Go.CF
set_option maxRecDepth 20000
theorem fgK_len (c : List Int) (l : List MkS) : (fgK c l).length ≤ l.length := List.length_filter_le _ _
/-- A list and an error code, asx the caller sees them. -/
abbrev resG (q : Int × List MgS) : AV := .tup [mgs q.2, it q.1]
theorem settle_p (m : ModS) (l : List MgS) (c : List Int) (hm : MOK m) : CallP Tryz.prog 16 [mdl m, mgs l, ints c] (resG (settleF m l c)) := by
  refine CallA.fx (settle_a m l c hm) ?_
  rintro _ _ (⟨v, L, h1, rfl, rfl, h2⟩ | ⟨h1, rfl, rfl⟩)
  · by_cases hv : ValL (mrgF m) l ∧ ValC c
    · have hq := settleF_ok hv
      rw [hq] at h2 ⊢
      simp only at h2 ⊢
      have hlen := hv.1.1
      have hLl : L.length = l.length := by have := congrArg List.length h2; rw [List.length_map, setF_len] at this; omega
      have h20 := hm.mrg
      rw [← h2]
      refine .tup (.sl .here (by omega) (.unb .here ?_) (.le (ALe.refl _) .nil)) .nil
      refine FX.rows (o := []) (r := mgeR) (f := mgeC) (g := mgC) (φ := MgE.g) L fun x hx o' => ?_
      have hml : x.marks.length ≤ 1024 := by
        obtain ⟨i, hi⟩ := List.getElem?_of_mem hx
        have h9 : (L.map MgE.g)[i]? = some x.g := by rw [List.getElem?_map, hi]; rfl
        rw [h2] at h9
        have hil := (List.getElem?_eq_some_iff.1 hi).1
        obtain ⟨g, hg⟩ := get_of (l := l) (i := i) (by omega)
        obtain ⟨t, ht⟩ := get_of (l := mrgF m) (i := i) (by omega)
        rw [setF_at ht hg] at h9
        have hle := valL_len hv.1 ht hg
        have hf := fgK_len c g.marks
        have h10 := Option.some.inj h9
        have : x.marks = (setG c t g).marks := by rw [h10]; rfl
        rw [this, setG]
        split
        · exact hle
        · split <;> (simp only; omega)
      exact .le (ALe.refl _) (.le (ALe.refl _) (.sl .here (by omega) (FX.refl _) .nil))
    · rw [settleF_bad hv] at h1
      cases h1
  · by_cases hv : ValL (mrgF m) l ∧ ValC c
    · rw [settleF_ok hv] at h1; exact absurd rfl h1
    · rw [settleF_bad hv]
      exact .tup (.le ALe.nil (.le (ALe.refl _) .nil)) .nil
noncomputable def valuesQ (m : ModS) (l : List MgS) : Int × List (List Int) := @ite _ (ValL (mrgF m) l) (Classical.propDecidable _) (0, valsF (mrgF m) l) (1, [])
theorem valuesQ_ok {m : ModS} {l : List MgS} (h : ValL (mrgF m) l) : valuesQ m l = (0, valsF (mrgF m) l) := @if_pos _ (Classical.propDecidable _) h _ _ _
theorem valuesQ_bad {m : ModS} {l : List MgS} (h : ¬ ValL (mrgF m) l) : valuesQ m l = (1, []) := @if_neg _ (Classical.propDecidable _) h _ _ _
abbrev resV (q : Int × List (List Int)) : AV := .tup [clks q.2, it q.1]
theorem valuesQ_p (m : ModS) (l : List MgS) (hm : MOK m) : CallP Tryz.prog 14 [mdl m, mgs l] (resV (valuesQ m l)) := by
  by_cases hv : ValL (mrgF m) l
  · rw [valuesQ_ok hv]; exact valuesM_p m l hm.lay hv (by have := hm.mrg; omega)
  · have hva := validM_p m l hm.lay
    rw [valuesQ_bad hv]
    refine CallA.conv (a := .tup [.val (.slice none 0 0), it 1]) (.tup (.cons ALe.nil (.cons (ALe.refl _) .nil))) ?_
    refine CallA.of pg ord14 Tryz.func14 rfl Tryz.ntmps14 Tryz.results14 rfl fun h0 G0 O0 => ?_
    repeat' (first | refine Sp.h ?_ | refine Lk.r rfl ?_ | refine Rf.mk rfl ?_ | (apply Bd.f; (focus (first | assumption | omega | exact Bool.false_ne_true))) | (refine All.mk ?_; intro _) | (apply TkB.r; (focus (repeat (first | exact Take.here | apply Take.there)))) | refine Ch.l ⟨rfl, rfl⟩ ?_ | (apply Nm.r; (focus repeat (first | apply LN.cons | exact LN.nil))) | fail | (apply Cl.p (hva); (focus repeat' (first | exact Lend.nil | apply Lend.keep | fail))))
    exact Fin.p rfl rfl
end Go.Proofs.YtpgpdmmobblffaaGreat
namespace Go.Proofs.YtpgpdmmobblffaaGreat
open Go Go.CF
set_option maxRecDepth 20000
theorem pw_uniq {α : Type} {R : α → α → Prop} (has : ∀ a b, R a b → ¬ R b a) : ∀ s t : List α, s.Pairwise R → t.Pairwise R → (∀ x, x ∈ s ↔ x ∈ t) → s = t := by
  intro s
  induction s with
  | nil =>
    intro t _ _ h
    cases t with
    | nil => rfl
    | cons b t => exact absurd ((h b).2 (by simp)) (by simp)
  | cons a s ih =>
    intro t hs ht h
    cases t with
    | nil => exact absurd ((h a).1 (by simp)) (by simp)
    | cons b t =>
      obtain ⟨h1, h2⟩ := List.pairwise_cons.1 hs
      obtain ⟨h3, h4⟩ := List.pairwise_cons.1 ht
      have hab : a = b := by
        rcases List.mem_cons.1 ((h a).1 (by simp)) with e | e
        · exact e
        · rcases List.mem_cons.1 ((h b).2 (by simp)) with e2 | e2
          · exact e2.symm
          · exact absurd (h3 a e) (has _ _ (h1 b e2))
      subst hab
      rw [ih t h2 h4 fun x => ?_]
      have := h x
      simp only [List.mem_cons] at this
      constructor
      · intro hx
        rcases this.1 (.inr hx) with e | e
        · subst e; exact absurd (h1 _ hx) (fun h9 => has _ _ h9 h9)
        · exact e
      · intro hx
        rcases this.2 (.inr hx) with e | e
        · subst e; exact absurd (h3 _ hx) (fun h9 => has _ _ h9 h9)
        · exact e
theorem LtK_asymm (a b : MkS) : LtK a b → ¬ LtK b a := by unfold LtK; omega
end Go.Proofs.YtpgpdmmobblffaaGreat
namespace Go.Proofs.YtpgpdmmobblffaaGreat
open Go Go.CF
set_option maxRecDepth 20000
theorem symMerge_a (v : Value) (L p A B q : List EvS) (a m b : Int) (hL : L = p ++ (A ++ (B ++ q))) (ha : a = p.length) (hm : m = p.length + A.length) (hb : b = p.length + A.length + B.length) (hA : 0 < A.length) (hB : 0 < B.length) (sA : SrtE A) (sB : SrtE B) (hl : L.length ≤ 100000) :
    CallA Tryz.prog 132 [.ow v, it a, it m, it b, .fn 66 []] [eR v L] fun r o => ∃ S, r = .tup [] ∧ o = [eR v (p ++ (S ++ q))] ∧ (A ++ B).Perm S ∧ SrtE S := by
  obtain ⟨A', rfl⟩ : ∃ A : Nat, a = A := ⟨_, ha⟩
  obtain ⟨M, rfl⟩ : ∃ M : Nat, m = M := ⟨p.length + A.length, by omega⟩
  obtain ⟨B', rfl⟩ : ∃ B : Nat, b = B := ⟨p.length + A.length + B.length, by omega⟩
  exact symMerge_n _ v L p A B q A' M B' (Nat.le_refl _) hL (by omega) (by omega) (by omega) hA hB sA sB hl
/-- Sorted pieces of one length, the last one shorter. -/
inductive Bks (w : Nat) : List EvS → Prop
  | last {l : List EvS} : l.length ≤ w → SrtE l → Bks w l
  | cons {c l : List EvS} : c.length = w → SrtE c → Bks w l → Bks w (c ++ l)
theorem Bks.one {w : Nat} {l : List EvS} (h : Bks w l) (hl : l.length ≤ w) : SrtE l := by
  cases h with
  | last _ h => exact h
  | @cons c l h1 h2 _ =>
    rw [List.length_append] at hl
    have : l = [] := List.eq_nil_of_length_eq_zero (by omega)
    subst this; simpa using h2
theorem Bks.two {w : Nat} {l : List EvS} (h : Bks w l) (hl : w < l.length) : ∃ c m, l = c ++ m ∧ c.length = w ∧ SrtE c ∧ Bks w m := by
  cases h with
  | last h _ => omega
  | @cons c l h1 h2 h3 => exact ⟨c, l, rfl, h1, h2, h3⟩
set_option maxHeartbeats 4000000 in
theorem stable_a (v : Value) (L : List EvS) (hl : L.length ≤ 10000) :
    CallA Tryz.prog 98 [.ow v, it (L.length : Nat), .fn 66 []] [eR v L] fun r o => ∃ S, r = .tup [] ∧ o = [eR v S] ∧ L.Perm S ∧ SrtE S := by
  obtain ⟨n, hn⟩ : ∃ n, n = L.length := ⟨_, rfl⟩
  rw [← hn]
  refine CallA.of pg ord98 Tryz.func98 rfl Tryz.ntmps98 Tryz.results98 rfl fun h0 G0 O0 => ?_
  repeat' (first | refine Sp.h ?_ | refine Lk.r rfl ?_ | refine Rf.mk rfl ?_ | fail)
  refine CA.loop (fun s : Nat × List EvS => ⟨[(0, .ow v), (1, it n), (2, .fn 66 []), (6, it 20), (7, it s.1), (8, it ((s.1 + 20 : Nat) : Int))], [eR v s.2]⟩)
    (fun s => ∃ P R, s.2 = P ++ R ∧ s.1 = P.length ∧ L.Perm s.2 ∧ ∀ Q, Bks 20 Q → Bks 20 (P ++ Q)) (fun s => n - s.1) (0, L) ⟨by (repeat (first | exact trivial | refine ⟨rfl, ?_⟩)), by (repeat (first | exact Subl.nil | refine Subl.cons (by (repeat (first | exact Take.here | apply Take.there))) ?_))⟩ ⟨[], L, rfl, rfl, List.Perm.refl _, fun Q h => h⟩ ?_
  rintro ⟨a, D⟩ ⟨P, R, h1, h2, h3, h4⟩
  simp only at h1 h2 h3
  simp only
  have hDl := h3.length_eq
  have hPR := congrArg List.length h1
  rw [List.length_append] at hPR
  by_cases han : a + 20 ≤ n
  · obtain ⟨A, R', rfl, hA⟩ := split_at R 20 (by omega)
    have hin := insSort_a v D P A R' a ((a + 20 : Nat) : Int) (by rw [h1]; simp) (by omega) (by omega) (by omega)
    repeat' (first | refine Sp.h ?_ | refine Lk.r rfl ?_ | refine Rf.mk rfl ?_ | (apply Bd.t; (focus (first | assumption | omega | rfl))) | fail)
    (apply Cl.use (hin); (focus repeat' (first | exact Lend.nil | apply Lend.keep | fail)); (focus (repeat (first | exact Takes.nil | (apply Takes.cons; (focus (repeat (first | exact Take.here | apply Take.there))))))); (focus rfl))
    rintro _ _ ⟨L', S, rfl, rfl, g1, g2, g3⟩
    have hSl := g2.length_eq
    repeat' (first | refine Sp.h ?_ | refine Lk.r rfl ?_ | refine Rf.mk rfl ?_ | (apply Ov.n; (focus first | omega | (simp <;> omega))) | fail)
    refine PA.lp (a + 20, L') ⟨by (repeat (first | exact trivial | refine ⟨rfl, ?_⟩)), by (repeat (first | exact Subl.nil | refine Subl.cons (by (repeat (first | exact Take.here | apply Take.there))) ?_))⟩ ⟨⟨P ++ S, R', g1, by simp; omega, h3.trans ?_, fun Q hQ => ?_⟩, by simp only; omega⟩
    · simp only
      rw [h1, g1, ← List.append_assoc]
      exact List.Perm.append_right R' (List.Perm.append_left P g2)
    · rw [List.append_assoc]
      exact h4 _ (.cons (by omega) g3 hQ)
  have hin := insSort_a v D P R [] a n (by rw [h1]; simp) (by omega) (by omega) (by omega)
  repeat' (first | refine Sp.h ?_ | refine Lk.r rfl ?_ | refine Rf.mk rfl ?_ | (apply Bd.f; (focus (first | assumption | omega | exact Bool.false_ne_true))) | fail)
  (apply Cl.use (hin); (focus repeat' (first | exact Lend.nil | apply Lend.keep | fail)); (focus (repeat (first | exact Takes.nil | (apply Takes.cons; (focus (repeat (first | exact Take.here | apply Take.there))))))); (focus rfl))
  rintro _ _ ⟨L', S, rfl, rfl, g1, g2, g3⟩
  have hSl := g2.length_eq
  have hB : Bks 20 L' := by rw [g1, List.append_nil]; exact h4 _ (.last (by omega) g3)
  have hP' : L.Perm L' := h3.trans (by rw [h1, g1, List.append_nil]; exact List.Perm.append_left P g2)
  repeat' (first | refine Sp.h ?_ | fail)
  refine CA.loop (fun s : Nat × List EvS => ⟨[(0, .ow v), (1, it n), (2, .fn 66 []), (6, it s.1)], [eR v s.2]⟩)
    (fun s => 0 < s.1 ∧ s.1 ≤ 20000 ∧ L.Perm s.2 ∧ Bks s.1 s.2) (fun s => n - s.1) (20, L') ⟨by (repeat (first | exact trivial | refine ⟨rfl, ?_⟩)), by (repeat (first | exact Subl.nil | refine Subl.cons (by (repeat (first | exact Take.here | apply Take.there))) ?_))⟩ ⟨by simp only; omega, by simp only; omega, hP', hB⟩ ?_
  clear h1 h2 h3 h4 hDl hPR han hin g1 g2 g3 hSl hB hP'
  clear S P R a D L'
  rintro ⟨w, D⟩ ⟨h1, h2, h3, h4⟩
  simp only at h1 h2 h3 h4
  simp only
  have hDl := h3.length_eq
  by_cases hwn : w < n
  rotate_left
  · repeat' (first | refine Sp.h ?_ | refine Lk.r rfl ?_ | refine Rf.mk rfl ?_ | (apply Bd.f; (focus (first | assumption | omega | exact Bool.false_ne_true))) | (apply Nm.r; (focus repeat (first | apply LN.cons | exact LN.nil))) | fail)
    exact ⟨_, [eR v D], .tup (.nil (by (repeat (first | exact Subl.nil | refine Subl.cons (by (repeat (first | exact Take.here | apply Take.there))) ?_)))), D, rfl, rfl, h3, h4.one (by omega)⟩
  repeat' (first | refine Sp.h ?_ | refine Lk.r rfl ?_ | refine Rf.mk rfl ?_ | (apply Bd.t; (focus (first | assumption | omega | rfl))) | (apply Om.mk; (focus first | omega | (simp <;> omega))) | fail)
  refine CA.loop (fun s : Nat × Nat × List EvS => ⟨[(0, .ow v), (1, it n), (2, .fn 66 []), (6, it w), (7, it s.1), (8, it s.2.1)], [eR v s.2.2]⟩)
    (fun s => s.2.1 = s.1 + 2 * w ∧ ∃ P R, s.2.2 = P ++ R ∧ s.1 = P.length ∧ L.Perm s.2.2 ∧ Bks w R ∧ ∀ Q, Bks (2 * w) Q → Bks (2 * w) (P ++ Q)) (fun s => n - s.1) (0, 2 * w, D) ⟨by (repeat (first | exact trivial | refine ⟨rfl, ?_⟩)), by (repeat (first | exact Subl.nil | refine Subl.cons (by (repeat (first | exact Take.here | apply Take.there))) ?_))⟩ ⟨by simp, [], D, rfl, rfl, h3, h4, fun Q h => h⟩ ?_
  clear h3 h4 hDl
  clear D
  rintro ⟨a, b, D⟩ ⟨hb, P, R, g1, g2, g3, g4, g5⟩
  simp only at hb g1 g2 g3
  subst hb
  simp only
  have hDl := g3.length_eq
  have hPR := congrArg List.length g1
  rw [List.length_append] at hPR
  by_cases han : a + 2 * w ≤ n
  · obtain ⟨c1, R1, rfl, k1, k2, k3⟩ := g4.two (by omega)
    rw [List.length_append] at hPR
    have hk : ∃ c2 R2, R1 = c2 ++ R2 ∧ c2.length = w ∧ SrtE c2 ∧ Bks w R2 := by
      by_cases h : w < R1.length
      · exact k3.two h
      · exact ⟨R1, [], by simp, by omega, k3.one (by omega), .last (by simp) List.Pairwise.nil⟩
    obtain ⟨c2, R2, rfl, k4, k5, k6⟩ := hk
    have hsm := symMerge_a v D P c1 c2 R2 a ((a : Int) + (w : Int)) ((a + 2 * w : Nat) : Int) g1 (by omega) (by omega) (by omega) (by omega) (by omega) k2 k5 (by omega)
    repeat' (first | refine Sp.h ?_ | refine Lk.r rfl ?_ | refine Rf.mk rfl ?_ | (apply Bd.t; (focus (first | assumption | omega | rfl))) | (apply Ov.n; (focus first | omega | (simp <;> omega))) | fail)
    (apply Cl.use (hsm); (focus repeat' (first | exact Lend.nil | apply Lend.keep | fail)); (focus (repeat (first | exact Takes.nil | (apply Takes.cons; (focus (repeat (first | exact Take.here | apply Take.there))))))); (focus rfl))
    rintro _ _ ⟨S, rfl, rfl, p1, p2⟩
    have hSl := p1.length_eq
    rw [List.length_append] at hSl
    repeat' (first | refine Sp.h ?_ | refine Lk.r rfl ?_ | refine Rf.mk rfl ?_ | (apply Om.mk; (focus first | omega | (simp <;> omega))) | (apply Ov.n; (focus first | omega | (simp <;> omega))) | fail)
    refine PA.lp (a + 2 * w, a + 2 * w + 2 * w, P ++ (S ++ R2)) ⟨by (repeat (first | exact trivial | refine ⟨rfl, ?_⟩)), by (repeat (first | exact Subl.nil | refine Subl.cons (by (repeat (first | exact Take.here | apply Take.there))) ?_))⟩ ⟨⟨rfl, P ++ S, R2, by simp, by simp; omega, g3.trans ?_, k6, fun Q hQ => ?_⟩, by simp only; omega⟩
    · simp only
      rw [g1]
      refine List.Perm.append_left P ?_
      rw [← List.append_assoc]
      exact List.Perm.append_right R2 p1
    · rw [List.append_assoc]
      exact g5 _ (.cons (by omega) p2 hQ)
  · by_cases hmn : a + w < n
    · obtain ⟨c1, R1, rfl, k1, k2, k3⟩ := g4.two (by omega)
      rw [List.length_append] at hPR
      have hsm := symMerge_a v D P c1 R1 [] a ((a : Int) + (w : Int)) n (by rw [g1]; simp) (by omega) (by omega) (by omega) (by omega) (by omega) k2 (k3.one (by omega)) (by omega)
      repeat' (first | refine Sp.h ?_ | refine Lk.r rfl ?_ | refine Rf.mk rfl ?_ | (apply Bd.t; (focus (first | assumption | omega | rfl))) | (apply Bd.f; (focus (first | assumption | omega | exact Bool.false_ne_true))) | (apply Ov.n; (focus first | omega | (simp <;> omega))) | fail)
      (apply Cl.use (hsm); (focus repeat' (first | exact Lend.nil | apply Lend.keep | fail)); (focus (repeat (first | exact Takes.nil | (apply Takes.cons; (focus (repeat (first | exact Take.here | apply Take.there))))))); (focus rfl))
      rintro _ _ ⟨S, rfl, rfl, p1, p2⟩
      have hSl := p1.length_eq
      rw [List.length_append] at hSl
      repeat' (first | refine Sp.h ?_ | refine Lk.r rfl ?_ | refine Rf.mk rfl ?_ | (apply Om.mk; (focus first | omega | (simp <;> omega))) | fail)
      refine PA.lp (w * 2, P ++ (S ++ [])) ⟨by (repeat (first | exact trivial | refine ⟨rfl, ?_⟩)), by (repeat (first | exact Subl.nil | refine Subl.cons (by (repeat (first | exact Take.here | apply Take.there))) ?_))⟩ ⟨⟨by simp only; omega, by simp only; omega, ?_, ?_⟩, by simp only; omega⟩
      · simp only
        rw [List.append_nil]
        exact g3.trans (by rw [g1]; exact List.Perm.append_left P p1)
      · simp only
        rw [List.append_nil, Nat.mul_comm]
        exact g5 _ (.last (by omega) p2)
    · repeat' (first | refine Sp.h ?_ | refine Lk.r rfl ?_ | refine Rf.mk rfl ?_ | (apply Bd.f; (focus (first | assumption | omega | exact Bool.false_ne_true))) | (apply Om.mk; (focus first | omega | (simp <;> omega))) | (apply Ov.n; (focus first | omega | (simp <;> omega))) | fail)
      refine PA.lp (w * 2, D) ⟨by (repeat (first | exact trivial | refine ⟨rfl, ?_⟩)), by (repeat (first | exact Subl.nil | refine Subl.cons (by (repeat (first | exact Take.here | apply Take.there))) ?_))⟩ ⟨⟨by simp only; omega, by simp only; omega, g3, ?_⟩, by simp only; omega⟩
      simp only
      rw [g1, Nat.mul_comm]
      exact g5 _ (.last (by omega) (g4.one (by omega)))
theorem sortStable_a (v : Value) (L : List EvS) (hl : L.length ≤ 10000) :
    CallA Tryz.prog 65 [.ow v, .fn 66 []] [eR v L] fun r o => ∃ S, r = .tup [] ∧ o = [eR v S] ∧ L.Perm S ∧ SrtE S := by
  have h := stable_a v L hl
  refine CallA.of pg ord65 Tryz.func65 rfl Tryz.ntmps65 Tryz.results65 rfl fun h0 G0 O0 => ?_
  repeat' (first | refine Sp.h ?_ | refine Lk.r rfl ?_ | refine Rf.mk rfl ?_ | (apply TkA.r; (focus (repeat (first | exact Take.here | apply Take.there)))) | fail)
  (apply Cl.use (h); (focus repeat' (first | exact Lend.nil | apply Lend.keep | fail)); (focus (repeat (first | exact Takes.nil | (apply Takes.cons; (focus (repeat (first | exact Take.here | apply Take.there))))))); (focus rfl))
  rintro _ _ ⟨S, rfl, rfl, h1, h2⟩
  repeat' (first | refine Sp.h ?_ | (apply Nm.r; (focus repeat (first | apply LN.cons | exact LN.nil))) | fail)
  exact ⟨_, [eR v S], .tup (.nil (by (repeat (first | exact Subl.nil | refine Subl.cons (by (repeat (first | exact Take.here | apply Take.there))) ?_)))), S, rfl, rfl, h1, h2⟩
theorem cloneE_o (l : List EvS) (hl : l.length ≤ 1000000000) : CallO Tryz.prog 64 [evs l] 37 13 l evC := by
  refine CallA.of pg ord64 Tryz.func64 rfl Tryz.ntmps64 Tryz.results64 rfl fun h0 G0 O0 => ?_
  repeat' (first | refine Sp.h ?_ | refine Lk.r rfl ?_ | refine Rf.mk rfl ?_ | (refine Bd.mk ?_ ?_ <;> intro _) | (apply Om.mk; (focus first | omega | (simp <;> omega))) | (refine Im.mk ?_; intro _) | (refine All.mk ?_; intro _) | (apply TkA.r; (focus (repeat (first | exact Take.here | apply Take.there)))) | refine Ce.l rfl ?_ | (apply Fk.r; (focus (repeat (first | exact FillA.nil | (apply FillA.agg; (focus rfl); (focus rfl); (focus (repeat (first | exact SetAs.z | (apply SetAs.c; (focus (repeat (first | assumption | exact SetA.z | apply SetA.s)))))))) | (apply FillA.one; (focus rfl); (focus infer_instance); (focus (repeat (first | assumption | exact SetA.z | apply SetA.s)))))))) | (apply Nm.r; (focus repeat (first | apply LN.cons | exact LN.nil))) | refine Rf.mk ⟨rfl, rfl⟩ ?_ | refine Rf.mk ⟨rfl, rfl, rfl⟩ ?_ | refine Mp.same ?_ | fail)
  · rename_i b hb hbt
    have hl0 : l = [] := Decidable.byContradiction fun h => by rw [hb h] at hbt; cases hbt
    subst hl0
    exact ⟨_, _, .one (.nils (.nil (by (repeat (first | exact Subl.nil | refine Subl.cons (by (repeat (first | exact Take.here | apply Take.there))) ?_))))), _, rfl, rfl⟩
  · repeat' (first | fail)
    exact ⟨_, _, .one (.same (.nil (by (repeat (first | exact Subl.nil | refine Subl.cons (by (repeat (first | exact Take.here | apply Take.there))) ?_))))), _, rfl, rfl⟩
/-- Events in the order. -/
noncomputable def ordE (l : List EvS) : List EvS := l.mergeSort fun a b => decide (¬ LtE b a)
theorem ordE_perm (l : List EvS) : l.Perm (ordE l) := (List.mergeSort_perm _ _).symm
theorem ordE_srt (l : List EvS) : SrtE (ordE l) := by
  have := List.pairwise_mergeSort (le := fun a b : EvS => decide (¬ LtE b a)) (fun a b c h1 h2 => by simp [LtE] at *; omega) (fun a b => by simp [LtE]; omega) l
  exact this.imp fun h => by simpa using h
theorem srt_lt {l : List EvS} (hu : Uniq l) {S : List EvS} (hp : l.Perm S) (hs : SrtE S) : S.Pairwise LtE := by
  have hu1 : l.Pairwise fun a b => nm a ≠ nm b := by
    rw [List.pairwise_iff_getElem]
    intro i j hi hj hij h
    have := hu i j _ _ (List.getElem?_eq_getElem hi) (List.getElem?_eq_getElem hj) h
    omega
  have hu2 : S.Pairwise fun a b => nm a ≠ nm b := hp.pairwise hu1 (fun h => h.symm)
  refine (hs.and hu2).imp fun ⟨h1, h2⟩ => ?_
  simp only [nm, ne_eq, List.cons.injEq, and_true] at h2
  unfold LtE at *
  omega
theorem ordE_uniq {l S : List EvS} (hu : Uniq l) (hp : l.Perm S) (hs : SrtE S) : S = ordE l :=
  pw_uniq (fun _ _ => LtE.asymm) _ _ (srt_lt hu hp hs) (srt_lt hu (ordE_perm l) (ordE_srt l)) fun _ => (hp.mem_iff).symm.trans (ordE_perm l).mem_iff
theorem order_o (l : List EvS) (hu : Uniq l) (hl : l.length ≤ 10000) : CallO Tryz.prog 27 [evs l] 37 13 (ordE l) evC := by
  have hc := cloneE_o l (by omega)
  refine CallA.of pg ord27 Tryz.func27 rfl Tryz.ntmps27 Tryz.results27 rfl fun h0 G0 O0 => ?_
  repeat' (first | refine Sp.h ?_ | refine Lk.r rfl ?_ | refine Rf.mk rfl ?_ | fail)
  (apply Cl.use (hc); (focus repeat' (first | exact Lend.nil | apply Lend.keep | fail)); (focus (repeat (first | exact Takes.nil | (apply Takes.cons; (focus (repeat (first | exact Take.here | apply Take.there))))))); (focus rfl))
  rintro _ _ ⟨w, rfl, rfl⟩
  have hs := sortStable_a w l hl
  repeat' (first | refine Sp.h ?_ | refine Lk.r rfl ?_ | refine Rf.mk rfl ?_ | fail)
  (apply Cl.use (hs); (focus repeat' (first | exact Lend.nil | apply Lend.keep | fail)); (focus (repeat (first | exact Takes.nil | (apply Takes.cons; (focus (repeat (first | exact Take.here | apply Take.there))))))); (focus rfl))
  rintro _ _ ⟨S, rfl, rfl, h1, h2⟩
  rw [ordE_uniq hu h1 h2]
  repeat' (first | refine Sp.h ?_ | refine Lk.r rfl ?_ | refine Rf.mk rfl ?_ | (apply Nm.r; (focus repeat (first | apply LN.cons | exact LN.nil))) | fail)
  exact ⟨_, _, .one (.same (.nil (by (repeat (first | exact Subl.nil | refine Subl.cons (by (repeat (first | exact Take.here | apply Take.there))) ?_))))), _, rfl, rfl⟩
theorem order_p (l : List EvS) (hu : Uniq l) (hl : l.length ≤ 10000) : CallP Tryz.prog 27 [evs l] (evs (ordE l)) :=
  CallA.fz (T := 37) (by rw [← (ordE_perm l).length_eq]; omega) (order_o l hu hl)
end Go.Proofs.YtpgpdmmobblffaaGreat
namespace Go.Proofs.YtpgpdmmobblffaaGreat
open Go Go.CF
set_option maxRecDepth 20000
/-- The update of a cell by an event. -/
def updE (m : ModS) (e : EvS) (i : Nat) : Option UpS := if e.kind = 0 then updF (usF m e) i else none
noncomputable def mkE (t : TblS) (e : EvS) (u : UpS) : MkS := ⟨e.rep, e.num, e.time, if isReg t.kind then u.2.2 else 0⟩
/-- The kind of the updates that make marks, and of those that let them go. -/
def bK (k : Int) : Int := if k = 2 then 0 else if k = 3 then 1 else 2
def kK (k : Int) : Int := if k = 2 then 1 else if k = 3 then 0 else 2
def Asg (m : ModS) (t : TblS) (i : Nat) (P : List EvS) (x : MkS) : Prop := ∃ e ∈ P, ∃ u, updE m e i = some u ∧ u.1 = bK t.kind ∧ x = mkE t e u
def Liv (m : ModS) (t : TblS) (i : Nat) (P : List EvS) (x : MkS) : Prop := ∃ e ∈ P, ∃ u, updE m e i = some u ∧ u.1 = bK t.kind ∧ x = mkE t e u ∧ ∀ d ∈ P, ∀ w, updE m d i = some w → w.1 = kK t.kind → ¬ HasC d.past e.rep e.num
def PutP (m : ModS) (t : TblS) (i : Nat) (P : List EvS) : Prop := t.kind = 3 ∧ ∃ e ∈ P, ∃ u, updE m e i = some u ∧ u.1 = 0
def Kn4 (m : ModS) (t : TblS) (i : Nat) (P : List EvS) (l : List MkS) : Prop := (l = [] ∧ ∀ x, ¬ Asg m t i P x) ∨ ∃ x, l = [x] ∧ Asg m t i P x ∧ ∀ y, Asg m t i P y → ¬ LtK x y
/-- What is known of a cell by events. -/
structure Kn (m : ModS) (t : TblS) (i : Nat) (P : List EvS) (g : MgS) : Prop where
  put : g.put = true ↔ PutP m t i P
  drop : g.drop = false
  srt : g.marks.Pairwise LtK
  four : t.kind = 4 → Kn4 m t i P g.marks
  liv : t.kind ≠ 4 → ∀ x, x ∈ g.marks ↔ Liv m t i P x
def UniqP (P : List EvS) : Prop := ∀ a ∈ P, ∀ b ∈ P, a.rep = b.rep → a.num = b.num → a = b
theorem asg_nm {m : ModS} {t : TblS} {i : Nat} {P : List EvS} (hu : UniqP P) {x y : MkS} (hx : Asg m t i P x) (hy : Asg m t i P y) (hn : Nm x y) : x = y := by
  obtain ⟨e, he, u, h1, _, rfl⟩ := hx
  obtain ⟨d, hd, w, h3, _, rfl⟩ := hy
  have := hu e he d hd hn.1 hn.2
  subst this
  rw [h1] at h3; cases h3; rfl
theorem liv_asg {m : ModS} {t : TblS} {i : Nat} {P : List EvS} {x : MkS} (h : Liv m t i P x) : Asg m t i P x := by
  obtain ⟨e, he, u, h1, h2, h3, _⟩ := h
  exact ⟨e, he, u, h1, h2, h3⟩
theorem Kn.mem {m : ModS} {t : TblS} {i : Nat} {P : List EvS} {g : MgS} (h : Kn m t i P g) {x : MkS} (hx : x ∈ g.marks) : Asg m t i P x := by
  by_cases k4 : t.kind = 4
  · rcases h.four k4 with ⟨h1, _⟩ | ⟨y, h1, h2, _⟩
    · rw [h1] at hx; cases hx
    · rw [h1, List.mem_singleton] at hx; subst hx; exact h2
  · exact liv_asg ((h.liv k4 x).1 hx)
/-- An event that comes next. -/
structure Nxt (P : List EvS) (e : EvS) : Prop where
  nm : ∀ p ∈ P, ¬ (p.rep = e.rep ∧ p.num = e.num)
  past : ∀ p ∈ P, ¬ HasC p.past e.rep e.num
  tm : ∀ p ∈ P, ¬ (p.time = e.time ∧ p.rep = e.rep)
  self : ¬ HasC e.past e.rep e.num
theorem asg_snoc {m : ModS} {t : TblS} {i : Nat} {P : List EvS} {e : EvS} {x : MkS} : Asg m t i (P ++ [e]) x ↔ Asg m t i P x ∨ ∃ u, updE m e i = some u ∧ u.1 = bK t.kind ∧ x = mkE t e u := by
  unfold Asg
  simp only [List.mem_append, List.mem_singleton]
  constructor
  · rintro ⟨d, hd | rfl, h⟩
    · exact .inl ⟨d, hd, h⟩
    · exact .inr h
  · rintro (⟨d, hd, h⟩ | h)
    · exact ⟨d, .inl hd, h⟩
    · exact ⟨e, .inr rfl, h⟩
theorem putP_snoc {m : ModS} {t : TblS} {i : Nat} {P : List EvS} {e : EvS} : PutP m t i (P ++ [e]) ↔ PutP m t i P ∨ t.kind = 3 ∧ ∃ u, updE m e i = some u ∧ u.1 = 0 := by
  unfold PutP
  simp only [List.mem_append, List.mem_singleton]
  constructor
  · rintro ⟨hk, d, hd | rfl, h⟩
    · exact .inl ⟨hk, d, hd, h⟩
    · exact .inr ⟨hk, h⟩
  · rintro (⟨hk, d, hd, h⟩ | ⟨hk, h⟩)
    · exact ⟨hk, d, .inl hd, h⟩
    · exact ⟨hk, e, .inr rfl, h⟩
theorem liv_snoc {m : ModS} {t : TblS} {i : Nat} {P : List EvS} {e : EvS} (hn : Nxt P e) {x : MkS} :
    Liv m t i (P ++ [e]) x ↔ (Liv m t i P x ∧ ∀ u, updE m e i = some u → u.1 = kK t.kind → ¬ HasC e.past x.rep x.num) ∨ ∃ u, updE m e i = some u ∧ u.1 = bK t.kind ∧ x = mkE t e u := by
  constructor
  · rintro ⟨d, hd, u, h1, h2, h3, h4⟩
    rcases List.mem_append.1 hd with hd | hd
    · refine .inl ⟨⟨d, hd, u, h1, h2, h3, fun d' hd' => h4 d' (List.mem_append.2 (.inl hd'))⟩, fun w hw hk => ?_⟩
      rw [h3]; exact h4 e (by simp) w hw hk
    · rw [List.mem_singleton.1 hd] at h1 h3
      exact .inr ⟨u, h1, h2, h3⟩
  · rintro (⟨⟨d, hd, u, h1, h2, h3, h4⟩, h5⟩ | ⟨u, h1, h2, h3⟩)
    · refine ⟨d, List.mem_append.2 (.inl hd), u, h1, h2, h3, fun d' hd' w hw hk => ?_⟩
      rcases List.mem_append.1 hd' with hd' | hd'
      · exact h4 d' hd' w hw hk
      · rw [List.mem_singleton.1 hd'] at hw ⊢
        have := h5 w hw hk
        rw [h3] at this; exact this
    · refine ⟨e, by simp, u, h1, h2, h3, fun d' hd' w hw hk => ?_⟩
      rcases List.mem_append.1 hd' with hd' | hd'
      · exact hn.past d' hd'
      · rw [List.mem_singleton.1 hd']; exact hn.self
theorem ins_lt {l : List MkS} {x : MkS} (hs : l.Pairwise LtK) (hn : ¬ HasNm l x) : (insK l x).Pairwise LtK ∧ ∀ y, y ∈ insK l x ↔ y ∈ l ∨ y = x := by
  have hsK : SrtK l := hs.imp fun h => LtK_asymm _ _ h
  have hm := hsK.mono x
  have hlt : ∀ y ∈ l, LtK x y ∨ LtK y x := fun y hy => by
    have h : ¬ Nm y x := fun h => hn ⟨y, hy, h⟩
    unfold Nm at h; unfold LtK; omega
  have h1 : ∀ y ∈ l.take (posK l x), LtK y x := fun y hy => by
    obtain ⟨j, hj⟩ := List.getElem?_of_mem hy
    have hjl : j < posK l x := by have := (List.getElem?_eq_some_iff.1 hj).1; simp at this; omega
    rw [List.getElem?_take, if_pos hjl] at hj
    by_cases h9 : LtK y x
    · exact h9
    · have : idxN (fun y => decide (¬ LtK y x)) l ≤ j := by
        rcases Nat.lt_or_ge j (idxN (fun y => decide (¬ LtK y x)) l) with hlt9 | h
        · exfalso
          have hle := idxN_le (fun y => decide (¬ LtK y x)) l
          by_cases hlen : idxN (fun y => decide (¬ LtK y x)) l < l.length
          · obtain ⟨z, _, _, hz3⟩ := idxN_at hlen
            have := hz3 j y hlt9 hj
            simp at this; exact h9 this
          · have hnone : ∀ z ∈ l, LtK z x := fun z hz => Classical.byContradiction fun h => hlen (idxN_lt.2 ⟨z, hz, by simpa using h⟩)
            exact h9 (hnone y (List.mem_of_getElem? hj))
        · exact h
      unfold posK at hjl; omega
  have h2 : ∀ y ∈ l.drop (posK l x), LtK x y := fun y hy => by
    obtain ⟨j, hj⟩ := List.getElem?_of_mem hy
    rw [List.getElem?_drop] at hj
    have hym := List.mem_of_getElem? hj
    refine (hlt y hym).resolve_right fun h9 => ?_
    have hp : posK l x < l.length := by have := (List.getElem?_eq_some_iff.1 hj).1; omega
    obtain ⟨z, hz, hz2, _⟩ := idxN_at (p := fun y => decide (¬ LtK y x)) (l := l) hp
    have hz2 : ¬ LtK z x := by simpa using hz2
    exact hz2 (hm _ _ z y (Nat.le_add_right (posK l x) j) hz hj h9)
  have htd := List.take_append_drop (posK l x) l
  have hs' := hs
  rw [← htd] at hs'
  obtain ⟨s1, s2, s3⟩ := List.pairwise_append.1 hs'
  refine ⟨List.pairwise_append.2 ⟨s1, List.pairwise_cons.2 ⟨h2, s2⟩, fun a ha b hb => ?_⟩, fun y => ?_⟩
  · rcases List.mem_cons.1 hb with rfl | hb
    · exact h1 a ha
    · exact s3 a ha b hb
  · rw [insK, List.mem_append, List.mem_cons]
    constructor
    · rintro (h | rfl | h)
      · exact .inl (List.mem_of_mem_take h)
      · exact .inr rfl
      · exact .inl (List.mem_of_mem_drop h)
    · rintro (h | rfl)
      · rw [← htd, List.mem_append] at h
        exact h.elim .inl fun h => .inr (.inr h)
      · exact .inr (.inl rfl)
end Go.Proofs.YtpgpdmmobblffaaGreat
namespace Go.Proofs.YtpgpdmmobblffaaGreat
open Go Go.CF
set_option maxRecDepth 20000
theorem cmp2_neg {a b : MkS} : cmp2 a b < 0 ↔ a.time < b.time ∨ a.time = b.time ∧ a.rep < b.rep := by
  unfold cmp2 orI cmpI
  by_cases h1 : a.time < b.time
  · simp [h1]
  by_cases h2 : b.time < a.time
  · simp [h1, h2]; omega
  have h3 : a.time = b.time := by omega
  by_cases h4 : a.rep < b.rep
  · simp [h3, h4]
  by_cases h5 : b.rep < a.rep
  · simp [h3, h4, h5]
  have h6 : a.rep = b.rep := by omega
  simp [h3, h6]
def Kd (t : TblS) : Prop := t.kind = 2 ∨ t.kind = 3 ∨ t.kind = 4 ∨ t.kind = 5
theorem cell_step {m : ModS} {t : TblS} {i : Nat} {P : List EvS} {g : MgS} {e : EvS} (hk : Kd t) (h : Kn m t i P g) (hl : g.marks.length < 1024) (hn : Nxt P e) :
    ∃ g', cellF e t (updE m e i) g = (0, g') ∧ Kn m t i (P ++ [e]) g' ∧ g'.marks.length ≤ g.marks.length + 1 := by
  cases hu : updE m e i with
  | none =>
    refine ⟨g, rfl, ⟨?_, h.drop, h.srt, fun k4 => ?_, fun k4 x => ?_⟩, by omega⟩
    · rw [putP_snoc, hu]; simp [h.put]
    · have he : ∀ x, Asg m t i (P ++ [e]) x ↔ Asg m t i P x := fun x => by rw [asg_snoc, hu]; simp
      rcases h.four k4 with ⟨h1, h2⟩ | ⟨x, h1, h2, h3⟩
      · exact .inl ⟨h1, fun x hx => h2 x ((he x).1 hx)⟩
      · exact .inr ⟨x, h1, (he x).2 h2, fun y hy => h3 y ((he y).1 hy)⟩
    · rw [liv_snoc hn, hu]; simp [h.liv k4]
  | some u =>
    have hno : ¬ HasNm g.marks (mkE t e u) := fun ⟨x, hx, hxn⟩ => by
      obtain ⟨p, hp, w, _, _, rfl⟩ := h.mem hx
      exact hn.nm p hp hxn
    have hadd : addF g.marks (mkE t e u) = (0, insK g.marks (mkE t e u)) := by rw [addF, if_neg hno, if_neg (by omega)]
    have hil : ∀ (l : List MkS) x, (insK l x).length = l.length + 1 := fun l x => by
      have := posK_le l x
      simp [insK]; omega
    obtain ⟨i1, i2⟩ := ins_lt h.srt hno
    have hfl : ∀ c, (fgK c g.marks).length ≤ g.marks.length := fun c => List.length_filter_le _ _
    have hfm : ∀ c x, x ∈ fgK c g.marks ↔ x ∈ g.marks ∧ ¬ HasC c x.rep x.num := fun c x => by simp [fgK, List.mem_filter]
    have hput : t.kind ≠ 3 → g.put = false := fun h3 => by
      have := h.put
      cases hp : g.put
      · rfl
      · exact absurd (this.1 hp).1 h3
    have hmk : mkE t e u = ⟨e.rep, e.num, e.time, if isReg t.kind then u.2.2 else 0⟩ := rfl
    have hlv : ∀ x, Liv m t i (P ++ [e]) x ↔ (Liv m t i P x ∧ (u.1 = kK t.kind → ¬ HasC e.past x.rep x.num)) ∨ (u.1 = bK t.kind ∧ x = mkE t e u) := fun x => by
      rw [liv_snoc hn, hu]; simp
    have hpt : PutP m t i (P ++ [e]) ↔ PutP m t i P ∨ t.kind = 3 ∧ u.1 = 0 := by rw [putP_snoc, hu]; simp
    have hsame : cellF e t (some u) g = (0, g) → (t.kind ≠ 4 → u.1 ≠ bK t.kind ∧ u.1 ≠ kK t.kind) → (t.kind = 4 → u.1 ≠ 2) → (t.kind = 3 → u.1 ≠ 0) → ∃ g', cellF e t (some u) g = (0, g') ∧ Kn m t i (P ++ [e]) g' ∧ g'.marks.length ≤ g.marks.length + 1 := fun h1 h2 h3 h4 => by
      refine ⟨g, h1, ⟨?_, h.drop, h.srt, fun k4 => ?_, fun k4 x => ?_⟩, by omega⟩
      · rw [hpt, h.put]; exact ⟨.inl, fun h => h.elim id fun h => absurd h.2 (h4 h.1)⟩
      · have hb : bK t.kind = 2 := by rw [k4]; rfl
        have he : ∀ x, Asg m t i (P ++ [e]) x ↔ Asg m t i P x := fun x => by
          rw [asg_snoc, hu]
          refine ⟨fun h => h.elim id fun ⟨w, hw, hw2, _⟩ => ?_, .inl⟩
          cases hw
          exact absurd (hw2.trans hb) (h3 k4)
        rcases h.four k4 with ⟨h1, h2⟩ | ⟨x, h1, h2, h3⟩
        · exact .inl ⟨h1, fun x hx => h2 x ((he x).1 hx)⟩
        · exact .inr ⟨x, h1, (he x).2 h2, fun y hy => h3 y ((he y).1 hy)⟩
      · rw [hlv, h.liv k4]
        exact ⟨fun h9 => .inl ⟨h9, fun h => absurd h (h2 k4).2⟩, fun h9 => h9.elim (·.1) fun h => absurd h.1 (h2 k4).1⟩
    rcases hk with k | k | k | k
    · have nb : bK t.kind = 0 := by rw [k]; rfl
      have nk : kK t.kind = 1 := by rw [k]; rfl
      by_cases u0 : u.1 = 0
      · refine ⟨⟨g.put, g.drop, insK g.marks (mkE t e u)⟩, ?_, ⟨?_, h.drop, i1, fun k4 => by omega, fun _ x => ?_⟩, by simp [hil]⟩
        · simp only [cellF, k, u0, true_and, true_or, if_true]
          rw [← k, ← hmk, hadd]
        · rw [hpt, h.put]; exact ⟨.inl, fun h => h.elim id fun h => by omega⟩
        · rw [hlv]
          show x ∈ insK g.marks (mkE t e u) ↔ _
          rw [i2, h.liv (by omega)]
          exact ⟨fun h9 => h9.elim (fun h9 => .inl ⟨h9, fun h => by omega⟩) fun h9 => .inr ⟨by omega, h9⟩, fun h9 => h9.elim (fun h9 => .inl h9.1) fun h9 => .inr h9.2⟩
      by_cases u1 : u.1 = 1
      · refine ⟨⟨false, g.drop, fgK e.past g.marks⟩, ?_, ⟨?_, h.drop, h.srt.filter _, fun k4 => by omega, fun _ x => ?_⟩, by simp only; have := hfl e.past; omega⟩
        · simp [cellF, k, u1]
        · rw [hpt, ← h.put, hput (by omega)]
          simp only [Bool.false_eq_true, false_or, false_iff]
          omega
        · rw [hlv]
          show x ∈ fgK e.past g.marks ↔ _
          rw [hfm, h.liv (by omega)]
          exact ⟨fun h9 => .inl ⟨h9.1, fun _ => h9.2⟩, fun h9 => h9.elim (fun h9 => ⟨h9.1, h9.2 (by omega)⟩) fun h9 => by omega⟩
      · exact hsame (by simp [cellF, k, u0, u1]) (fun _ => ⟨by omega, by omega⟩) (fun h => by omega) (fun h => by omega)
    · have nb : bK t.kind = 1 := by rw [k]; rfl
      have nk : kK t.kind = 0 := by rw [k]; rfl
      by_cases u1 : u.1 = 1
      · refine ⟨⟨g.put, g.drop, insK g.marks (mkE t e u)⟩, ?_, ⟨?_, h.drop, i1, fun k4 => by omega, fun _ x => ?_⟩, by simp [hil]⟩
        · simp only [cellF, k, u1, true_and, or_true, if_true]
          rw [← k, ← hmk, hadd]
        · rw [hpt, h.put]; exact ⟨.inl, fun h => h.elim id fun h => by omega⟩
        · rw [hlv]
          show x ∈ insK g.marks (mkE t e u) ↔ _
          rw [i2, h.liv (by omega)]
          exact ⟨fun h9 => h9.elim (fun h9 => .inl ⟨h9, fun h => by omega⟩) fun h9 => .inr ⟨by omega, h9⟩, fun h9 => h9.elim (fun h9 => .inl h9.1) fun h9 => .inr h9.2⟩
      by_cases u0 : u.1 = 0
      · refine ⟨⟨true, false, fgK e.past g.marks⟩, ?_, ⟨?_, rfl, h.srt.filter _, fun k4 => by omega, fun _ x => ?_⟩, by simp only; have := hfl e.past; omega⟩
        · simp [cellF, k, u0]
        · rw [hpt]; simp [k, u0]
        · rw [hlv]
          show x ∈ fgK e.past g.marks ↔ _
          rw [hfm, h.liv (by omega)]
          exact ⟨fun h9 => .inl ⟨h9.1, fun _ => h9.2⟩, fun h9 => h9.elim (fun h9 => ⟨h9.1, h9.2 (by omega)⟩) fun h9 => by omega⟩
      · exact hsame (by simp [cellF, k, u0, u1]) (fun _ => ⟨by omega, by omega⟩) (fun h => by omega) (fun _ => u0)
    · have nb : bK t.kind = 2 := by rw [k]; rfl
      by_cases u2 : u.1 = 2
      · have hc : ∀ q, lastF g.marks (mkE t e u) = (0, q) → cellF e t (some u) g = (0, ⟨g.put, g.drop, q⟩) := fun q hq => by
          simp only [cellF, k, u2]
          rw [← k, ← hmk, hq]; simp [k]
        have hx : ∀ x, Asg m t i (P ++ [e]) x ↔ Asg m t i P x ∨ x = mkE t e u := fun x => by rw [asg_snoc, hu]; simp [nb, u2]
        have hpp : g.put = true ↔ PutP m t i (P ++ [e]) := by rw [hpt, h.put]; exact ⟨.inl, fun h => h.elim id fun h => by omega⟩
        rcases h.four k with ⟨h1, h2⟩ | ⟨x, h1, h2, h3⟩
        · refine ⟨⟨g.put, g.drop, [mkE t e u]⟩, hc _ ?_, ⟨hpp, h.drop, by simp, fun _ => .inr ⟨_, rfl, (hx _).2 (.inr rfl), fun y hy => ?_⟩, fun h => absurd k h⟩, by simp⟩
          · rw [h1] at hadd ⊢
            rw [lastF, hadd]
            simp [insK, posK, idxN]
          · rcases (hx y).1 hy with hy | rfl
            · exact absurd hy (h2 y)
            · exact fun h => LtK_asymm _ _ h h
        · by_cases hc2 : cmp2 x (mkE t e u) < 0
          · have hlt : LtK x (mkE t e u) := by have := cmp2_neg.1 hc2; unfold LtK; omega
            refine ⟨⟨g.put, g.drop, [mkE t e u]⟩, hc _ (by rw [h1, lastF, if_pos hc2]), ⟨hpp, h.drop, by simp, fun _ => .inr ⟨_, rfl, (hx _).2 (.inr rfl), fun y hy h9 => ?_⟩, fun h => absurd k h⟩, by simp⟩
            rcases (hx y).1 hy with hy | rfl
            · exact h3 y hy (hlt.trans h9)
            · exact LtK_asymm _ _ h9 h9
          · refine ⟨⟨g.put, g.drop, [x]⟩, hc _ (by rw [h1, lastF, if_neg hc2]), ⟨hpp, h.drop, by simp, fun _ => .inr ⟨x, rfl, (hx _).2 (.inl h2), fun y hy h9 => ?_⟩, fun h => absurd k h⟩, by simp⟩
            rcases (hx y).1 hy with hy | rfl
            · exact h3 y hy h9
            · obtain ⟨p, hp, w, _, _, rfl⟩ := h2
              have a1 := hn.tm p hp
              rw [cmp2_neg] at hc2
              unfold LtK at h9
              simp only [mkE] at hc2 h9
              omega
      · exact hsame (by simp [cellF, k, u2]) (fun h => absurd k h) (fun _ => u2) (fun h => by omega)
    · have nb : bK t.kind = 2 := by rw [k]; rfl
      have nk : kK t.kind = 2 := by rw [k]; rfl
      by_cases u2 : u.1 = 2
      · have hno2 : ¬ HasNm (fgK e.past g.marks) (mkE t e u) := fun ⟨x, hx, hxn⟩ => hno ⟨x, ((hfm _ _).1 hx).1, hxn⟩
        have hfl2 := hfl e.past
        have hadd2 : addF (fgK e.past g.marks) (mkE t e u) = (0, insK (fgK e.past g.marks) (mkE t e u)) := by rw [addF, if_neg hno2, if_neg (by omega)]
        obtain ⟨j1, j2⟩ := ins_lt (l := fgK e.past g.marks) (h.srt.filter _) hno2
        refine ⟨⟨g.put, g.drop, insK (fgK e.past g.marks) (mkE t e u)⟩, ?_, ⟨?_, h.drop, j1, fun k4 => by omega, fun _ x => ?_⟩, by simp only [hil]; omega⟩
        · simp only [cellF, k, u2]
          rw [← k, ← hmk, hadd2]; simp [k]
        · rw [hpt, h.put]; exact ⟨.inl, fun h => h.elim id fun h => by omega⟩
        · rw [hlv]
          show x ∈ insK (fgK e.past g.marks) (mkE t e u) ↔ _
          rw [show x ∈ insK (fgK e.past g.marks) (mkE t e u) ↔ x ∈ fgK e.past g.marks ∨ x = mkE t e u from j2 x, hfm, h.liv (by omega)]
          exact ⟨fun h9 => h9.elim (fun h9 => .inl ⟨h9.1, fun _ => h9.2⟩) fun h9 => .inr ⟨by omega, h9⟩, fun h9 => h9.elim (fun h9 => .inl ⟨h9.1, h9.2 (by omega)⟩) fun h9 => .inr h9.2⟩
      · exact hsame (by simp [cellF, k, u2]) (fun _ => ⟨by omega, by omega⟩) (fun h => by omega) (fun h => by omega)
end Go.Proofs.YtpgpdmmobblffaaGreat
namespace Go.Proofs.YtpgpdmmobblffaaGreat
open Go Go.CF
set_option maxRecDepth 20000
/-- Marks of a cell: in order, each name once. -/
def GoodK (l : List MkS) : Prop := l.Pairwise LtK ∧ l.Pairwise fun x y => ¬ Nm x y
theorem take_lt {α : Type} {l : List α} {i : Nat} {x y : α} {R : α → α → Prop} (h : l.Pairwise R) (hx : l[i]? = some x) (hy : y ∈ l.take i) : R y x := by
  obtain ⟨j, hj⟩ := List.getElem?_of_mem hy
  have hjl : j < i := by have := (List.getElem?_eq_some_iff.1 hj).1; simp at this; omega
  rw [List.getElem?_take, if_pos hjl] at hj
  obtain ⟨p1, rfl⟩ := List.getElem?_eq_some_iff.1 hj
  obtain ⟨q1, rfl⟩ := List.getElem?_eq_some_iff.1 hx
  exact List.pairwise_iff_getElem.1 h j i p1 q1 hjl
end Go.Proofs.YtpgpdmmobblffaaGreat
namespace Go.Proofs.YtpgpdmmobblffaaGreat
open Go Go.CF
set_option maxRecDepth 20000
def joinC (a b : List Int) : List Int := zipC max a b
theorem join_z {a b : List Int} (h : AlikeC [a, b]) : CallP Tryz.prog 36 [clks [a, b]] (ints (joinC a b)) :=
  CallA.fz (by have := ((alike2 a b).1 h).1.2; simp [joinC, zipC]; omega) (join_o [a, b] h)
end Go.Proofs.YtpgpdmmobblffaaGreat
namespace Go.Proofs.YtpgpdmmobblffaaGreat
open Go Go.CF
set_option maxRecDepth 20000
theorem ValG.good {t : TblS} {g : MgS} (h : ValG t g) : GoodK g.marks := by
  have h1 : g.marks.Pairwise fun x y => ¬ Nm x y := by
    rw [List.pairwise_iff_getElem]
    intro i j hi hj hij
    exact (h.2 j g.marks[j] hj (List.getElem?_eq_getElem hj)).2.1 i g.marks[i] hij (List.getElem?_eq_getElem hi)
  refine ⟨?_, h1⟩
  have h2 := h.srt
  rw [SrtK, List.pairwise_iff_getElem] at h2
  rw [List.pairwise_iff_getElem] at h1 ⊢
  intro i j hi hj hij
  have a1 := h1 i j hi hj hij
  have a2 := h2 i j hi hj hij
  unfold Nm at a1
  unfold LtK at a2 ⊢
  omega
end Go.Proofs.YtpgpdmmobblffaaGreat
namespace Go.Proofs.YtpgpdmmobblffaaGreat
open Go Go.CF
set_option maxRecDepth 20000
def isSt (k : Int) : Prop := k = 2 ∨ k = 3
/-- All updates suit their cells. -/
def FitU (m : ModS) : Prop := ∀ a ∈ m.acts, ∀ u ∈ a.eff.updates, ∀ (i : Nat) t, u.2.1 = i → (mrgF m)[i]? = some t → (isSt t.kind ↔ u.1 = 0 ∨ u.1 = 1) ∧ (¬ isSt t.kind → t.lo ≤ u.2.2 ∧ u.2.2 ≤ t.hi)
structure KnL (m : ModS) (P : List EvS) (l : List MgS) : Prop where
  len : l.length = (mrgF m).length
  kn : ∀ (i : Nat) t g, (mrgF m)[i]? = some t → l[i]? = some g → Kn m t i P g ∧ g.marks.length ≤ P.length
theorem kd_of {m : ModS} (hm : LayOK m.sorts m.tables) {i : Nat} {t : TblS} (ht : (mrgF m)[i]? = some t) : Kd t := by
  have := kindM hm t (List.mem_of_getElem? ht)
  unfold Kd; omega
theorem updE_mem {m : ModS} {e : EvS} {i : Nat} {u : UpS} (h : updE m e i = some u) : ∃ a ∈ m.acts, u ∈ a.eff.updates ∧ u.2.1 = i := by
  unfold updE at h
  split at h
  · have h1 := List.mem_of_find?_eq_some h
    have h2 := List.find?_some h
    have h2 : u.2.1 = (i : Int) := by simpa using h2
    rw [List.mem_reverse] at h1
    unfold usF at h1
    cases ha : m.acts[e.action.toNat]? with
    | none => rw [ha] at h1; cases h1
    | some a => rw [ha] at h1; exact ⟨a, List.mem_of_getElem? ha, h1, h2⟩
  · cases h
theorem Kn.valG {m : ModS} {t : TblS} {i : Nat} {P : List EvS} {g : MgS} (hf : FitU m) (ht : (mrgF m)[i]? = some t) (hk : Kd t) (hu : UniqP P) (hP : ∀ e ∈ P, FormedE e) (h : Kn m t i P g) (hl : g.marks.length ≤ 1024) : ValG t g := by
  refine ⟨⟨fun h9 => ?_, fun h9 => ?_, fun h9 => ?_, hl⟩, fun j x hj hx => ⟨?_, fun q y hq hy hn => ?_, fun y hq hy h9 => ?_⟩⟩
  · rw [h.drop] at h9; cases h9
  · have := (h.put.1 h9.1).1
    have := h9.2
    unfold isReg at this; omega
  · rcases h.four h9.1 with ⟨h1, _⟩ | ⟨x, h1, _⟩
    · rw [h1] at h9; simp at h9
    · rw [h1] at h9; simp at h9
  · obtain ⟨e, he, u, h1, h2, rfl⟩ := h.mem (List.mem_of_getElem? hx)
    obtain ⟨f1, f2, ⟨y, f3, f4⟩, f5, f6, f7⟩ := hP e he
    have hlen := (List.getElem?_eq_some_iff.1 f3).1
    have := f1.1 y (List.mem_of_getElem? f3)
    have := f1.2
    unfold rngK at *
    unfold Btw at f6
    obtain ⟨a, ha, hua, hui⟩ := updE_mem h1
    have hfit := hf a ha u hua i t hui ht
    refine ⟨by simp only [mkE]; omega, by simp only [mkE]; omega, by simp only [mkE]; omega, ?_⟩
    simp only [mkE, lowT, highT]
    by_cases hr : isReg t.kind
    · rw [if_pos hr, if_pos hr, if_pos hr]
      exact hfit.2 (by unfold isReg at hr; unfold isSt; omega)
    · rw [if_neg hr, if_neg hr, if_neg hr]; omega
  · have h1 := h.mem (List.mem_of_getElem? hx)
    have h2 := h.mem (List.mem_of_getElem? hy)
    have := asg_nm hu h2 h1 hn
    subst this
    obtain ⟨j1, rfl⟩ := List.getElem?_eq_some_iff.1 hx
    obtain ⟨q1, hq2⟩ := List.getElem?_eq_some_iff.1 hy
    have := List.pairwise_iff_getElem.1 h.srt q j q1 j1 hq
    rw [hq2] at this
    exact LtK_asymm _ _ this this
  · obtain ⟨j1, rfl⟩ := List.getElem?_eq_some_iff.1 hx
    obtain ⟨q1, rfl⟩ := List.getElem?_eq_some_iff.1 hy
    exact LtK_asymm _ _ h9 (List.pairwise_iff_getElem.1 h.srt (j - 1) j q1 j1 (by omega))
theorem KnL.valL {m : ModS} {P : List EvS} {l : List MgS} (hm : LayOK m.sorts m.tables) (hf : FitU m) (hu : UniqP P) (hP : ∀ e ∈ P, FormedE e) (hl : P.length ≤ 1024) (h : KnL m P l) : ValL (mrgF m) l :=
  ⟨h.len.symm, fun i t g ht hg => (h.kn i t g ht hg).1.valG hf ht (kd_of hm ht) hu hP (by have := (h.kn i t g ht hg).2; omega)⟩
theorem KnL.nil (m : ModS) : KnL m [] (List.replicate (mrgF m).length mg0) := by
  refine ⟨by simp, fun i t g _ hg => ?_⟩
  have : g = mg0 := (List.mem_replicate.1 (List.mem_of_getElem? hg)).2
  subst this
  exact ⟨⟨by simp [mg0, PutP], rfl, .nil, fun _ => .inl ⟨rfl, fun x ⟨e, he, _⟩ => by cases he⟩, fun _ x => by simp [mg0, Liv]⟩, by simp [mg0]⟩
/-- Applying an event that comes next. -/
theorem apply_step {m : ModS} {P : List EvS} {l : List MgS} {e : EvS} (hm : LayOK m.sorts m.tables) (hv : ValL (mrgF m) l) (hl : P.length < 1024) (h : KnL m P l) (he : EvV m (e.past.length : Nat) e) (hn : Nxt P e) :
    ∃ l', applyF m l e = (0, l') ∧ KnL m (P ++ [e]) l' ∧ ∀ (i : Nat) t g, (mrgF m)[i]? = some t → l[i]? = some g → l'[i]? = some (cellF e t (updE m e i) g).2 := by
  have hstep : ∀ (i : Nat) t g, (mrgF m)[i]? = some t → l[i]? = some g → ∃ g', cellF e t (updE m e i) g = (0, g') ∧ Kn m t i (P ++ [e]) g' ∧ g'.marks.length ≤ g.marks.length + 1 := fun i t g ht hg =>
    cell_step (kd_of hm ht) (h.kn i t g ht hg).1 (by have := (h.kn i t g ht hg).2; omega) hn
  by_cases hk : e.kind = 0
  · have hup : ∀ i : Nat, updE m e i = updF (usF m e) i := fun i => if_pos hk
    have hat : ∀ (i : Nat) t g, (mrgF m)[i]? = some t → l[i]? = some g → (cellsF (mrgF m) l (usF m e) e)[i]? = some (cellF e t (updE m e i) g) := fun i t g ht hg => by rw [hup]; exact cellsF_at ht hg
    have hall : ∀ p ∈ cellsF (mrgF m) l (usF m e) e, p.1 = 0 := fun p hp => by
      obtain ⟨i, hi⟩ := List.getElem?_of_mem hp
      have hil := (List.getElem?_eq_some_iff.1 hi).1
      rw [cellsF_len] at hil
      obtain ⟨g, hg⟩ := get_of hil
      obtain ⟨t, ht⟩ := get_of (l := mrgF m) (i := i) (by rw [← h.len]; exact hil)
      obtain ⟨g', h1, _⟩ := hstep i t g ht hg
      rw [hat i t g ht hg, h1] at hi
      cases hi; rfl
    refine ⟨(cellsF (mrgF m) l (usF m e) e).map (·.2), ?_, ⟨by rw [List.length_map, cellsF_len, h.len], fun i t g' ht hg' => ?_⟩, fun i t g ht hg => by rw [List.getElem?_map, hat i t g ht hg]; rfl⟩
    · rw [applyF, if_neg (fun h9 => h9 ⟨hv, he⟩), if_neg (fun h9 => h9 hk), gather_end (fun p hp => .inl (hall p hp)), if_neg]
      rintro ⟨p, hp, h8⟩
      rw [hall p hp] at h8; cases h8
    · obtain ⟨g, hg⟩ := get_of (l := l) (i := i) (by rw [h.len]; exact (List.getElem?_eq_some_iff.1 ht).1)
      obtain ⟨g2, h1, h2, h3⟩ := hstep i t g ht hg
      rw [List.getElem?_map, hat i t g ht hg, h1] at hg'
      cases hg'
      have := (h.kn i t g ht hg).2
      exact ⟨h2, by simp; omega⟩
  · have hup : ∀ i : Nat, updE m e i = none := fun i => if_neg hk
    refine ⟨l, by rw [applyF, if_neg (fun h9 => h9 ⟨hv, he⟩), if_pos hk], ⟨h.len, fun i t g ht hg => ?_⟩, fun i t g ht hg => by rw [hup]; exact hg⟩
    obtain ⟨g2, h1, h2, h3⟩ := hstep i t g ht hg
    rw [hup] at h1
    have e1 : g = g2 := congrArg Prod.snd h1
    subst e1
    have := (h.kn i t g ht hg).2
    exact ⟨h2, by simp; omega⟩
/-! ### Closed lists -/
theorem uniqP_of {l : List EvS} (h : Uniq l) : UniqP l := fun a ha b hb h1 h2 => h.eq ha hb (by rw [nm, nm, h1, h2])
theorem has_self {e : EvS} (h : FormedE e) : ¬ HasC e.past e.rep e.num := by
  obtain ⟨_, _, ⟨x, h1, h2⟩, _⟩ := h
  rintro ⟨_, _, _, y, h3, h4⟩
  rw [h1] at h3; cases h3; omega
theorem closed_past {l : List EvS} (h : ClosedE l) {e d : EvS} (hd : d ∈ l) (he : e ∈ l) (hh : HasC d.past e.rep e.num) : e.time < d.time ∧ Cont e.past d.past := by
  obtain ⟨h1, h2, h3, x, h4, h5⟩ := hh
  obtain ⟨y, hy, g1, g2, g3, g4⟩ := h.2.2.2 d hd e.rep.toNat x h4 e.num h3 h5
  have : y = e := uniqP_of h.2.1 y hy e he (by omega) g2
  subst this
  exact ⟨g4, g3⟩
theorem has_of_lt {l : List EvS} (h : ClosedE l) {e d : EvS} (hd : d ∈ l) (he : e ∈ l) (hr : e.rep = d.rep) (hn : e.num < d.num) : HasC d.past e.rep e.num := by
  obtain ⟨f1, f2, ⟨x, f3, f4⟩, _⟩ := (h.2.2.1 d hd).1
  obtain ⟨g1, g2, ⟨y, g3, g4⟩, _⟩ := (h.2.2.1 e he).1
  have := g1.1 y (List.mem_of_getElem? g3)
  unfold rngK at this
  exact ⟨f1, by omega, by omega, x, by rw [hr]; exact f3, by omega⟩
theorem nxt_of {l : List EvS} (h : ClosedE l) {A : List EvS} {e : EvS} (he : e ∈ l) (hA : ∀ p ∈ A, p ∈ l ∧ LtE p e) : Nxt A e := by
  refine ⟨fun p hp ⟨h1, h2⟩ => ?_, fun p hp hh => ?_, fun p hp ⟨h1, h2⟩ => ?_, has_self (h.2.2.1 e he).1⟩
  · have := uniqP_of h.2.1 p (hA p hp).1 e he h1 h2
    have hl := (hA p hp).2
    rw [this] at hl
    exact hl.asymm hl
  · have := (closed_past h (hA p hp).1 he hh).1
    have hl := (hA p hp).2
    unfold LtE at hl; omega
  · have hl := (hA p hp).2
    unfold LtE at hl
    have := (closed_past h he (hA p hp).1 (has_of_lt h he (hA p hp).1 h2 (by omega))).1
    omega
end Go.Proofs.YtpgpdmmobblffaaGreat
namespace Go.Proofs.YtpgpdmmobblffaaGreat
open Go Go.CF
set_option maxRecDepth 20000
theorem zipC_at {op : Int → Int → Int} {a b : List Int} (h : a.length = b.length) {i : Nat} {z : Int} : (zipC op a b)[i]? = some z ↔ ∃ x y, a[i]? = some x ∧ b[i]? = some y ∧ z = op x y := by
  unfold zipC
  rw [List.getElem?_zipWith]
  constructor
  · intro h9
    cases ha : a[i]? with
    | none => rw [ha] at h9; simp at h9
    | some x =>
      cases hb : b[i]? with
      | none => rw [ha, hb] at h9; simp at h9
      | some y => rw [ha, hb] at h9; simp at h9; exact ⟨x, y, rfl, rfl, h9.symm⟩
  · rintro ⟨x, y, ha, hb, rfl⟩
    rw [ha, hb]
theorem zipC_val {op : Int → Int → Int} {a b : List Int} (ha : ValC a) (hb : ValC b) (h : a.length = b.length) (hop : ∀ x y, rngK x → rngK y → rngK (op x y)) : ValC (zipC op a b) := by
  refine ⟨fun z hz => ?_, ?_⟩
  · obtain ⟨i, hi⟩ := List.getElem?_of_mem hz
    obtain ⟨x, y, h1, h2, rfl⟩ := (zipC_at h).1 hi
    exact hop x y (ha.1 x (List.mem_of_getElem? h1)) (hb.1 y (List.mem_of_getElem? h2))
  · rw [zipC_len h]; exact ha.2
theorem rng_max (x y : Int) (hx : rngK x) (hy : rngK y) : rngK (max x y) := by unfold rngK at *; omega
theorem rng_min (x y : Int) (hx : rngK x) (hy : rngK y) : rngK (min x y) := by unfold rngK at *; omega
theorem joinC_val {a b : List Int} (ha : ValC a) (hb : ValC b) (h : a.length = b.length) : ValC (joinC a b) := zipC_val ha hb h rng_max
theorem joinC_len {a b : List Int} (h : a.length = b.length) : (joinC a b).length = a.length := zipC_len h
theorem has_join {a b : List Int} (ha : ValC a) (hb : ValC b) (h : a.length = b.length) (r n : Int) : HasC (joinC a b) r n ↔ HasC a r n ∨ HasC b r n := by
  constructor
  · rintro ⟨_, h2, h3, z, h4, h5⟩
    obtain ⟨x, y, hx, hy, rfl⟩ := (zipC_at h).1 h4
    by_cases hn : n ≤ x
    · exact .inl ⟨ha, h2, h3, x, hx, hn⟩
    · exact .inr ⟨hb, h2, h3, y, hy, by omega⟩
  · rintro (⟨_, h2, h3, x, hx, h5⟩ | ⟨_, h2, h3, y, hy, h5⟩)
    · obtain ⟨y, hy⟩ := get_of (l := b) (i := r.toNat) (by rw [← h]; exact (List.getElem?_eq_some_iff.1 hx).1)
      exact ⟨joinC_val ha hb h, h2, h3, _, (zipC_at h).2 ⟨x, y, hx, hy, rfl⟩, by omega⟩
    · obtain ⟨x, hx⟩ := get_of (l := a) (i := r.toNat) (by rw [h]; exact (List.getElem?_eq_some_iff.1 hy).1)
      exact ⟨joinC_val ha hb h, h2, h3, _, (zipC_at h).2 ⟨x, y, hx, hy, rfl⟩, by omega⟩
theorem clkE_val {n : Nat} (hn : 1 ≤ n ∧ n ≤ 5) {l : List EvS} (hl : ∀ e ∈ l, rngK e.num) : ValC (clkE n l) := by
  have key : ∀ (l : List EvS) (c : List Int), (∀ e ∈ l, rngK e.num) → (∀ x ∈ c, rngK x) → ∀ x ∈ l.foldl (fun c e => c.set e.rep.toNat (max (c[e.rep.toNat]?.getD 0) e.num)) c, rngK x := by
    intro l
    induction l with
    | nil => exact fun c _ h => h
    | cons e l ih =>
      intro c h1 h2
      rw [List.foldl_cons]
      refine ih _ (fun d hd => h1 d (List.mem_cons_of_mem _ hd)) fun x hx => ?_
      rcases List.mem_or_eq_of_mem_set hx with h | rfl
      · exact h2 x h
      · have h3 := h1 e (by simp)
        have h4 : rngK (c[e.rep.toNat]?.getD 0) := by
          cases hc : c[e.rep.toNat]? with
          | none => simp [rngK]
          | some y => exact h2 y (List.mem_of_getElem? hc)
        exact rng_max _ _ h4 h3
  refine ⟨key l _ hl fun x hx => ?_, by rw [clkE_len]; omega⟩
  rw [(List.mem_replicate.1 hx).2]; simp [rngK]
theorem formed_num {e : EvS} (h : FormedE e) : rngK e.num := by
  obtain ⟨f1, _, ⟨x, f3, f4⟩, f5, _⟩ := h
  have := f1.1 x (List.mem_of_getElem? f3)
  unfold rngK at *; omega
/-- The clock of the least closed part that contains a clock's events. -/
noncomputable def part1 (l : List EvS) (c : List Int) : List Int := zipC min c (clkE c.length l)
noncomputable def partC (l : List EvS) (c : List Int) : List Int := (cutL l (part1 l c)).foldl (fun k x => joinC k x.past) (part1 l c)
theorem mem_cut {l : List EvS} {c : List Int} {e : EvS} : e ∈ cutL l c ↔ e ∈ l ∧ HasC c e.rep e.num := by simp [cutL, List.mem_filter]
theorem fold_has {n : Nat} : ∀ (xs : List EvS) (c : List Int), (∀ x ∈ xs, ValC x.past ∧ x.past.length = n) → ValC c → c.length = n →
    ValC (xs.foldl (fun k x => joinC k x.past) c) ∧ (xs.foldl (fun k x => joinC k x.past) c).length = n ∧ ∀ r m, HasC (xs.foldl (fun k x => joinC k x.past) c) r m ↔ HasC c r m ∨ ∃ x ∈ xs, HasC x.past r m := by
  intro xs
  induction xs with
  | nil => intro c _ h2 h3; exact ⟨h2, h3, fun r m => by simp⟩
  | cons x xs ih =>
    intro c h1 h2 h3
    obtain ⟨v1, v2⟩ := h1 x (by simp)
    rw [List.foldl_cons]
    obtain ⟨a1, a2, a3⟩ := ih (joinC c x.past) (fun y hy => h1 y (List.mem_cons_of_mem _ hy)) (joinC_val h2 v1 (by omega)) (by rw [joinC_len (by omega)]; omega)
    refine ⟨a1, a2, fun r m => ?_⟩
    rw [a3, has_join h2 v1 (by omega)]
    constructor
    · rintro ((h | h) | ⟨y, hy, h⟩)
      · exact .inl h
      · exact .inr ⟨x, by simp, h⟩
      · exact .inr ⟨y, List.mem_cons_of_mem _ hy, h⟩
    · rintro (h | ⟨y, hy, h⟩)
      · exact .inl (.inl h)
      · rcases List.mem_cons.1 hy with rfl | hy
        · exact .inl (.inr h)
        · exact .inr ⟨y, hy, h⟩
theorem has_ins {a b : List Int} (hb : ValC b) (h : Ins a b) (hl : a.length ≤ b.length) {r n : Int} (hh : HasC a r n) : HasC b r n := by
  obtain ⟨_, h2, h3, x, hx, h5⟩ := hh
  obtain ⟨y, hy⟩ := get_of (l := b) (i := r.toNat) (by have := (List.getElem?_eq_some_iff.1 hx).1; omega)
  exact ⟨hb, h2, h3, y, hy, by have := h _ x y hx hy; omega⟩
/-- A closed part of a list, and its clock. -/
structure Part (l : List EvS) (k : List Int) : Prop where
  val : ValC k
  len : k.length = n0 l
  cls : ∀ e ∈ cutL l k, ∀ d ∈ l, HasC e.past d.rep d.num → d ∈ cutL l k
  sub : ∀ e ∈ cutL l k, Ins e.past k
theorem cont_ins {a b : List Int} (h : Cont a b) : Ins a b ∧ a.length = b.length ∧ ValC b := ⟨h.2, ((alike2 a b).1 h.1).2.2, ((alike2 a b).1 h.1).2.1⟩
theorem part1_ok {l : List EvS} {c : List Int} (hc : ClosedE l) (hv : ValC c) (hl : c.length = n0 l) : ValC (part1 l c) ∧ (part1 l c).length = n0 l := by
  have h1 : ValC (clkE c.length l) := clkE_val hv.2 fun e he => formed_num (hc.2.2.1 e he).1
  exact ⟨zipC_val hv h1 (by rw [clkE_len]) rng_min, by rw [part1, zipC_len (by rw [clkE_len]), hl]⟩
theorem fold_ins {n : Nat} : ∀ (xs : List EvS) (c : List Int), (∀ x ∈ xs, x.past.length = n) → c.length = n → Ins c (xs.foldl (fun k x => joinC k x.past) c) ∧ ∀ x ∈ xs, Ins x.past (xs.foldl (fun k x => joinC k x.past) c) := by
  intro xs
  induction xs with
  | nil => intro c _ _; exact ⟨fun i x y h1 h2 => by rw [List.foldl_nil, h1] at h2; cases h2; omega, fun x hx => by cases hx⟩
  | cons x xs ih =>
    intro c h1 h2
    rw [List.foldl_cons]
    have hx := h1 x (by simp)
    have hjl : (joinC c x.past).length = n := by rw [joinC_len (by omega)]; exact h2
    obtain ⟨a1, a2⟩ := ih (joinC c x.past) (fun y hy => h1 y (List.mem_cons_of_mem _ hy)) hjl
    have step : ∀ a : List Int, a.length = n → Ins a (joinC c x.past) → Ins a (xs.foldl (fun k x => joinC k x.past) (joinC c x.past)) := fun a hal ha i u w hu hw => by
      obtain ⟨z, hz⟩ := get_of (l := joinC c x.past) (i := i) (by rw [hjl, ← hal]; exact (List.getElem?_eq_some_iff.1 hu).1)
      have := ha i u z hu hz
      have := a1 i z w hz hw
      omega
    refine ⟨step c h2 fun i u w hu hw => ?_, fun y hy => ?_⟩
    · obtain ⟨p, q, hp, _, rfl⟩ := (zipC_at (by omega)).1 hw
      rw [hp] at hu; cases hu; omega
    · rcases List.mem_cons.1 hy with rfl | hy
      · refine step _ hx fun i u w hu hw => ?_
        obtain ⟨p, q, _, hq, rfl⟩ := (zipC_at (by omega)).1 hw
        rw [hq] at hu; cases hu; omega
      · exact a2 y hy
theorem part_ok {l : List EvS} {c : List Int} (hc : ClosedE l) (hv : ValC c) (hl : c.length = n0 l) : Part l (partC l c) := by
  obtain ⟨p1, p2⟩ := part1_ok hc hv hl
  have hxs : ∀ x ∈ cutL l (part1 l c), ValC x.past ∧ x.past.length = n0 l := fun x hx => by
    have := hc.2.2.1 x (mem_cut.1 hx).1
    exact ⟨this.1.1, this.2⟩
  obtain ⟨a1, a2, a3⟩ := fold_has (cutL l (part1 l c)) (part1 l c) hxs p1 p2
  obtain ⟨b1, b2⟩ := fold_ins (n := n0 l) (cutL l (part1 l c)) (part1 l c) (fun x hx => (hxs x hx).2) p2
  have hsub : ∀ e ∈ cutL l (partC l c), Ins e.past (partC l c) := fun e he => by
    obtain ⟨h1, h2⟩ := mem_cut.1 he
    rcases (a3 _ _).1 h2 with h | ⟨x, hx, h⟩
    · exact b2 e (mem_cut.2 ⟨h1, h⟩)
    · obtain ⟨g1, g2, _⟩ := cont_ins (closed_past hc (mem_cut.1 hx).1 h1 h).2
      intro i u w hu hw
      obtain ⟨z, hz⟩ := get_of (l := x.past) (i := i) (by rw [← g2]; exact (List.getElem?_eq_some_iff.1 hu).1)
      have := g1 i u z hu hz
      have := b2 x hx i z w hz hw
      omega
  refine ⟨a1, a2, fun e he d hd hh => ?_, hsub⟩
  refine mem_cut.2 ⟨hd, has_ins a1 (hsub e he) ?_ hh⟩
  have h9 : e.past.length = n0 l := (hc.2.2.1 e (mem_cut.1 he).1).2
  have h10 : (partC l c).length = n0 l := a2
  omega
end Go.Proofs.YtpgpdmmobblffaaGreat
namespace Go.Proofs.YtpgpdmmobblffaaGreat
open Go Go.CF
set_option maxRecDepth 20000
def tA : TblS := ⟨⟨#[97]⟩, 2, [], 0, 1, 0⟩
def tR : TblS := ⟨⟨#[114]⟩, 3, [], 0, 1, 1⟩
theorem sets_mrg : mrgF setsM = [tA, tR] := by
  simp [mrgF, mrgL, setsM, isStrict, szF, prodF, tA, tR]
theorem sets_lay : LayOK setsM.sorts setsM.tables := by
  refine ⟨by simp [setsM], fun x hx => by simp [setsM] at hx, by simp [setsM], fun t ht => ?_⟩
  simp only [setsM, List.mem_cons, List.not_mem_nil, or_false] at ht
  rcases ht with rfl | rfl <;> simp [TabOK, ColOK, Sound, setsM]
theorem sets_ok : MOK setsM := by
  refine ⟨sets_lay, by simp [setsM], by simp [setsM], fun a ha => ?_, by simp [strF, strN, setsM, isStrict], by rw [sets_mrg]; simp⟩
  have hl : ((mrgF setsM).length : Int) = 2 := by rw [sets_mrg]; rfl
  simp only [setsM, List.mem_cons, List.not_mem_nil, or_false] at ha
  rcases ha with rfl | rfl
  all_goals
    refine ⟨by simp, by simp, by simp, fun p hp => by simp at hp, fun p hp => ?_⟩
    simp only [List.mem_cons, List.not_mem_nil, or_false] at hp
    rcases hp with rfl | rfl <;> rw [hl] <;> decide
def ev1 : EvS := ⟨0, 1, 1, [0, 0], 0, 0, 0, 0, 0, 0, 0, 0, 1⟩
def ev2 : EvS := ⟨1, 1, 1, [0, 0], 0, 1, 0, 0, 0, 0, 0, 0, 1⟩
def ev3 : EvS := ⟨0, 2, 2, [1, 1], 0, 0, 0, 0, 0, 0, 0, 0, 2⟩
def k1 : MkS := ⟨0, 1, 1, 0⟩
def k2 : MkS := ⟨1, 1, 1, 0⟩
def k3 : MkS := ⟨0, 2, 2, 0⟩
theorem valC2 (a b : Int) (h : (a = 0 ∨ a = 1) ∧ (b = 0 ∨ b = 1)) : ValC [a, b] := by
  refine ⟨fun x hx => ?_, by simp, by simp⟩
  simp only [List.mem_cons, List.not_mem_nil, or_false] at hx
  unfold rngK
  omega
theorem ev1_ok : EvV setsM (ev1.past.length : Nat) ev1 := by
  refine ⟨⟨valC2 0 0 (by decide), by decide, ⟨0, by decide, by decide⟩, by decide, by unfold Btw; decide, .inl ⟨rfl, ?_, ?_⟩⟩, rfl, fun _ => by simp [ev1, setsM]⟩
  · unfold Sub0 Btw; decide
  · unfold GiveZ; decide
theorem ev2_ok : EvV setsM (ev2.past.length : Nat) ev2 := by
  refine ⟨⟨valC2 0 0 (by decide), by decide, ⟨0, by decide, by decide⟩, by decide, by unfold Btw; decide, .inl ⟨rfl, ?_, ?_⟩⟩, rfl, fun _ => by simp [ev2, setsM]⟩
  · unfold Sub0 Btw; decide
  · unfold GiveZ; decide
theorem ev3_ok : EvV setsM (ev3.past.length : Nat) ev3 := by
  refine ⟨⟨valC2 1 1 (by decide), by decide, ⟨1, by decide, by decide⟩, by decide, by unfold Btw; decide, .inl ⟨rfl, ?_, ?_⟩⟩, rfl, fun _ => by simp [ev3, setsM]⟩
  · unfold Sub0 Btw; decide
  · unfold GiveZ; decide
/-- What can be known of both sets: few marks, each with a name of its own. -/
theorem val_one {t : TblS} {p : Bool} {x : MkS} (hk : t.kind = 2 ∨ t.kind = 3) (hx : RightK t x) : ValG t ⟨p, false, [x]⟩ := by
  refine ⟨⟨fun h => by simp at h, fun h => by have := h.2; unfold isReg at this; omega, fun h => by simp at h, by simp⟩, fun i y hi hy => ?_⟩
  match i, hi, hy with
  | 0, _, hy =>
    have hy : x = y := by simpa using hy
    subst hy
    exact ⟨hx, fun j z h => by omega, fun z h => by omega⟩
theorem val_none {t : TblS} {p : Bool} (hk : t.kind = 2 ∨ t.kind = 3) : ValG t ⟨p, false, []⟩ :=
  ⟨⟨fun h => by simp at h, fun h => by have := h.2; unfold isReg at this; omega, fun h => by simp at h, by simp⟩, fun i y hi _ => by simp at hi⟩
theorem val_two {t : TblS} {p : Bool} {x y : MkS} (hk : t.kind = 2 ∨ t.kind = 3) (hx : RightK t x) (hy : RightK t y) (hn : ¬ Nm x y) (hl : ¬ LtK y x) : ValG t ⟨p, false, [x, y]⟩ := by
  refine ⟨⟨fun h => by simp at h, fun h => by have := h.2; unfold isReg at this; omega, fun h => by omega, by simp⟩, fun i z hi hz => ?_⟩
  match i, hi, hz with
  | 0, _, hz =>
    have hz : x = z := by simpa using hz
    subst hz
    exact ⟨hx, fun j z h => by omega, fun z h => by omega⟩
  | 1, _, hz =>
    have hz : y = z := by simpa using hz
    subst hz
    refine ⟨hy, fun j w hj hw => ?_, fun w _ hw => ?_⟩
    · have : j = 0 := by omega
      subst this
      have hw : x = w := by simpa using hw
      subst hw
      exact hn
    · have hw : x = w := by simpa using hw
      subst hw
      exact hl
def L0 : List MgS := [mg0, mg0]
def L1 : List MgS := [⟨false, false, [k1]⟩, ⟨true, false, []⟩]
def L2 : List MgS := [⟨false, false, [k1]⟩, ⟨true, false, [k2]⟩]
def L3 : List MgS := [⟨false, false, [k1, k3]⟩, ⟨true, false, []⟩]
theorem right_sets {t : TblS} {x : MkS} (ht : t = tA ∨ t = tR) (hx : x = k1 ∨ x = k2 ∨ x = k3) : RightK t x := by
  have hr : ¬ isReg t.kind := by rcases ht with rfl | rfl <;> simp [isReg, tA, tR]
  unfold RightK
  rw [show lowT t = 0 from if_neg hr, show highT t = 0 from if_neg hr]
  rcases hx with rfl | rfl | rfl <;> simp [k1, k2, k3]
theorem vl_two {a b : MgS} (ha : ValG tA a) (hb : ValG tR b) : ValL [tA, tR] [a, b] := by
  refine ⟨rfl, fun i t g ht hg => ?_⟩
  match i, ht, hg with
  | 0, ht, hg => simp at ht hg; subst ht; subst hg; exact ha
  | 1, ht, hg => simp at ht hg; subst ht; subst hg; exact hb
theorem vl0 : ValL [tA, tR] L0 := vl_two (val_none (.inl rfl)) (val_none (.inr rfl))
theorem vl1 : ValL [tA, tR] L1 := vl_two (val_one (.inl rfl) (right_sets (.inl rfl) (by simp))) (val_none (.inr rfl))
theorem vl2 : ValL [tA, tR] L2 := vl_two (val_one (.inl rfl) (right_sets (.inl rfl) (by simp))) (val_one (.inr rfl) (right_sets (.inr rfl) (by simp)))
theorem vl3 : ValL [tA, tR] L3 := vl_two (val_two (.inl rfl) (right_sets (.inl rfl) (by simp)) (right_sets (.inl rfl) (by simp)) (by simp [Nm, k1, k3]) (by simp [LtK, k1, k3])) (val_none (.inr rfl))
theorem applyF_two {m : ModS} {a b : MgS} {e : EvS} {x y : MgS} (hm : mrgF m = [tA, tR]) (hv : ValL [tA, tR] [a, b]) (he : EvV m (e.past.length : Nat) e) (hk : e.kind = 0) (hx : cellF e tA (updF (usF m e) 0) a = (0, x)) (hy : cellF e tR (updF (usF m e) 1) b = (0, y)) : applyF m [a, b] e = (0, [x, y]) := by
  have hC : cellsF (mrgF m) [a, b] (usF m e) e = [(0, x), (0, y)] := by
    rw [hm]
    have e1 : cellF e tA (updF (usF m e) ((0 : Nat) : Int)) a = (0, x) := hx
    have e2 : cellF e tR (updF (usF m e) ((1 : Nat) : Int)) b = (0, y) := hy
    simp only [cellsF, List.length_cons, List.length_nil, List.range_succ, List.range_zero, List.nil_append, List.cons_append, List.map_cons, List.map_nil, List.getElem?_cons_zero, List.getElem?_cons_succ, e1, e2]
  rw [applyF, if_neg (fun h => h ⟨by rw [hm]; exact hv, he⟩), if_neg (fun h => h hk), hC, gather_end (by simp)]
  simp
theorem has_k (a b : Int) (r n : Int) (h : ¬ (0 ≤ r ∧ 1 ≤ n ∧ ∃ x, [a, b][r.toNat]? = some x ∧ n ≤ x)) : ¬ HasC [a, b] r n := fun h9 => h h9.2
theorem app1 : applyF setsM L0 ev1 = (0, L1) := by
  refine applyF_two sets_mrg vl0 ev1_ok rfl ?_ ?_
  · show cellF ev1 tA (some (0, 0, 0)) mg0 = _
    simp [cellF, tA, mg0, addF, HasNm, insK, posK, idxN, isReg, ev1, k1]
  · show cellF ev1 tR (some (0, 1, 0)) mg0 = _
    simp [cellF, tR, mg0, fgK]
theorem app2 : applyF setsM L1 ev2 = (0, L2) := by
  refine applyF_two sets_mrg vl1 ev2_ok rfl ?_ ?_
  · show cellF ev2 tA (some (1, 0, 0)) ⟨false, false, [k1]⟩ = _
    have h : ¬ HasC [0, 0] 0 1 := has_k _ _ _ _ (by simp)
    simp [cellF, tA, fgK, ev2, k1, h]
  · show cellF ev2 tR (some (1, 1, 0)) ⟨true, false, []⟩ = _
    simp [cellF, tR, addF, HasNm, insK, posK, idxN, isReg, ev2, k2]
theorem app3 : applyF setsM L2 ev3 = (0, L3) := by
  refine applyF_two sets_mrg vl2 ev3_ok rfl ?_ ?_
  · show cellF ev3 tA (some (0, 0, 0)) ⟨false, false, [k1]⟩ = _
    simp [cellF, tA, addF, HasNm, Nm, insK, posK, idxN, LtK, isReg, ev3, k1, k3]
  · show cellF ev3 tR (some (0, 1, 0)) ⟨true, false, [k2]⟩ = _
    have h : HasC [1, 1] 1 1 := ⟨valC2 1 1 (by decide), by decide, by decide, 1, rfl, by decide⟩
    simp [cellF, tR, fgK, ev3, k2, h]
theorem setsV2 : setsV [tA, tR] L2 = [[1], [0]] := by decide
theorem setsV3 : setsV [tA, tR] L3 = [[1], [1]] := by decide
end Go.Proofs.YtpgpdmmobblffaaGreat
namespace Go.Proofs.YtpgpdmmobblffaaGreat
open Go Go.CF
set_option maxRecDepth 20000
theorem out_fx {v : Value} {L : List MgE} (hl : L.length ≤ 1000000) (hm : ∀ x ∈ L, x.marks.length ≤ 1000000) {l l' : List AV} {own : List Res} (ht : FX [] l l' own) : FX (outR v L) (.ow v :: l) (mgs (L.map MgE.g) :: l') own := by
  refine .sl .here (by omega) (.unb .here ?_) ht
  refine FX.rows (o := []) (r := mgeR) (f := mgeC) (g := mgC) (φ := MgE.g) L fun x hx o' => ?_
  have := hm x hx
  exact .le (ALe.refl _) (.le (ALe.refl _) (.sl .here (by omega) (FX.refl _) .nil))
theorem applyOK_p (m : ModS) (l : List MgS) (e : EvS) (F : List MgS) (hm : MOK m) (hF : applyF m l e = (0, F)) (hl : F.length ≤ 1000000) (hk : ∀ g ∈ F, g.marks.length ≤ 1000000) :
    CallP Tryz.prog 12 [mdl m, mgs l, evA' e] (.tup [mgs F, it 0]) := by
  refine CallA.fx (apply_a m l e hm) ?_
  rw [hF]
  rintro r o (⟨v, L, _, rfl, rfl, hL⟩ | ⟨h, _⟩)
  · have hL : L.map MgE.g = F := hL
    subst hL
    exact .tup (out_fx (by simpa using hl) (fun x hx => hk x.g (List.mem_map_of_mem hx)) (FX.refl _)) .nil
  · exact absurd rfl h
theorem new0_p : CallP Tryz.prog 18 [mdl setsM] (mgs L0) := by
  have h := new_p setsM sets_lay
  rw [sets_mrg] at h
  exact h
theorem app1_p : CallP Tryz.prog 12 [mdl setsM, mgs L0, evA' ev1] (.tup [mgs L1, it 0]) := applyOK_p _ _ _ _ sets_ok app1 (by decide) (by decide)
theorem app2_p : CallP Tryz.prog 12 [mdl setsM, mgs L1, evA' ev2] (.tup [mgs L2, it 0]) := applyOK_p _ _ _ _ sets_ok app2 (by decide) (by decide)
theorem app3_p : CallP Tryz.prog 12 [mdl setsM, mgs L2, evA' ev3] (.tup [mgs L3, it 0]) := applyOK_p _ _ _ _ sets_ok app3 (by decide) (by decide)
theorem sets_k : ∀ t ∈ mrgF setsM, t.kind = 2 ∨ t.kind = 3 := by
  rw [sets_mrg]; decide
theorem val2_p : CallP Tryz.prog 14 [mdl setsM, mgs L2] (.tup [clks [[1], [0]], it 0]) := by
  have h := valuesL_p setsM L2 sets_lay (by rw [sets_mrg]; exact vl2) sets_k (by rw [sets_mrg]; decide)
  rwa [sets_mrg, setsV2] at h
theorem val3_p : CallP Tryz.prog 14 [mdl setsM, mgs L3] (.tup [clks [[1], [1]], it 0]) := by
  have h := valuesL_p setsM L3 sets_lay (by rw [sets_mrg]; exact vl3) sets_k (by rw [sets_mrg]; decide)
  rwa [sets_mrg, setsV3] at h
set_option maxHeartbeats 4000000 in
theorem awake34_p : CallP Tryz.prog 8 [] (bl true) := by
  have hs := sets_p
  have hn := new0_p
  have hsa := same34_p L2 L2
  have hl2 := listsQ_p [[1], [0]] [[1], [0]]
  have hl3 := listsQ_p [[1], [1]] [[1], [1]]
  have g2 : L3[0]? = some ⟨false, false, [k1, k3]⟩ := rfl
  have g3 : L3[1]? = some ⟨true, false, []⟩ := rfl
  have g4 : (L3.length : Int) = 2 := rfl
  have g5 : (([k1, k3] : List MkS).length : Int) = 2 := rfl
  refine CallA.of pg ord8 Tryz.func8 rfl Tryz.ntmps8 Tryz.results8 rfl fun h0 G0 O0 => ?_
  repeat' (first | refine Sp.h ?_ | refine Lk.r rfl ?_ | refine Rf.mk rfl ?_ | (refine All.mk ?_; intro _) | (apply TkA.r; (focus (repeat (first | exact Take.here | apply Take.there)))) | (apply TkB.r; (focus (repeat (first | exact Take.here | apply Take.there)))) | refine Ch.l ⟨rfl, rfl⟩ ?_ | (apply SetAsk.r; (focus (repeat (first | exact SetAs.z | (apply SetAs.c; (focus (repeat (first | assumption | exact SetA.z | apply SetA.s)))))))) | (apply Fk.r; (focus (repeat (first | exact FillA.nil | (apply FillA.agg; (focus rfl); (focus rfl); (focus (repeat (first | exact SetAs.z | (apply SetAs.c; (focus (repeat (first | assumption | exact SetA.z | apply SetA.s)))))))) | (apply FillA.one; (focus rfl); (focus infer_instance); (focus (repeat (first | assumption | exact SetA.z | apply SetA.s)))))))) | (apply Nm.r; (focus repeat (first | apply LN.cons | exact LN.nil))) | refine Rf.mk ⟨rfl, rfl, rfl⟩ ?_ | fail | (apply Cl.p (hs); (focus repeat' (first | exact Lend.nil | apply Lend.keep | fail))) | (apply Cl.p (hn); (focus repeat' (first | exact Lend.nil | apply Lend.keep | fail))))
  rename_i b1 _ _ _
  apply CA.freezeX 20 (b := evs [ev1, ev2])
  focus rfl
  focus (repeat' (first | exact FX.nil | (apply FX.sl; (focus (repeat (first | exact Take.here | apply Take.there))); (focus exact Nat.le_of_ble_eq_true rfl)) | (apply FX.le; (focus first | exact ALe.refl _ | exact ALe.nil)) | apply FX.agg | apply FX.tup))
  refine CA.loop (fun x : Nat × List MgS => ⟨[(1, pm b1), (2, mgs x.2), (20, evs [ev1, ev2]), (21, it (2 : Nat)), (22, it x.1)], [blkR b1 30 (modC setsM)]⟩)
    (fun x => x = (0, L0) ∨ x = (1, L1) ∨ x = (2, L2)) (fun x => 2 - x.1) (0, L0) ⟨by (repeat (first | exact trivial | refine ⟨rfl, ?_⟩)), by (repeat (first | exact Subl.nil | refine Subl.cons (by (repeat (first | exact Take.here | apply Take.there))) ?_))⟩ (.inl rfl) ?_
  have g0 : [ev1, ev2][0]? = some ev1 := rfl
  have g1 : [ev1, ev2][1]? = some ev2 := rfl
  rintro x (rfl | rfl | rfl)
  · simp only
    repeat' (first | refine Sp.h ?_ | refine Lk.r rfl ?_ | refine Rf.mk rfl ?_ | (apply Bd.t; (focus (first | assumption | omega | rfl))) | (refine All.mk ?_; intro _) | (apply TkB.r; (focus (repeat (first | exact Take.here | apply Take.there)))) | (apply Ix.q; (focus exact rfl); (focus assumption)) | refine Ch.l ⟨rfl, rfl⟩ ?_ | (apply SetAsk.r; (focus (repeat (first | exact SetAs.z | (apply SetAs.c; (focus (repeat (first | assumption | exact SetA.z | apply SetA.s)))))))) | (apply Nm.r; (focus repeat (first | apply LN.cons | exact LN.nil))) | (apply Ov.n; (focus first | omega | (simp <;> omega))) | fail | (apply Cl.p (app1_p); (focus repeat' (first | exact Lend.nil | apply Lend.keep | fail))))
    exact PA.lp (1, L1) ⟨by (repeat (first | exact trivial | refine ⟨rfl, ?_⟩)), by (repeat (first | exact Subl.nil | refine Subl.cons (by (repeat (first | exact Take.here | apply Take.there))) ?_))⟩ ⟨.inr (.inl rfl), by decide⟩
  · simp only
    repeat' (first | refine Sp.h ?_ | refine Lk.r rfl ?_ | refine Rf.mk rfl ?_ | (apply Bd.t; (focus (first | assumption | omega | rfl))) | (refine All.mk ?_; intro _) | (apply TkB.r; (focus (repeat (first | exact Take.here | apply Take.there)))) | (apply Ix.q; (focus exact rfl); (focus assumption)) | refine Ch.l ⟨rfl, rfl⟩ ?_ | (apply SetAsk.r; (focus (repeat (first | exact SetAs.z | (apply SetAs.c; (focus (repeat (first | assumption | exact SetA.z | apply SetA.s)))))))) | (apply Nm.r; (focus repeat (first | apply LN.cons | exact LN.nil))) | (apply Ov.n; (focus first | omega | (simp <;> omega))) | fail | (apply Cl.p (app2_p); (focus repeat' (first | exact Lend.nil | apply Lend.keep | fail))))
    exact PA.lp (2, L2) ⟨by (repeat (first | exact trivial | refine ⟨rfl, ?_⟩)), by (repeat (first | exact Subl.nil | refine Subl.cons (by (repeat (first | exact Take.here | apply Take.there))) ?_))⟩ ⟨.inr (.inr rfl), by decide⟩
  · simp only
    repeat' (first | refine Sp.h ?_ | refine Lk.r rfl ?_ | refine Rf.mk rfl ?_ | (apply Bd.f; (focus (first | assumption | omega | exact Bool.false_ne_true))) | (apply TkB.r; (focus (repeat (first | exact Take.here | apply Take.there)))) | refine Ch.l ⟨rfl, rfl⟩ ?_ | fail)
    (apply Cl.p (val2_p); (focus repeat' (first | exact Lend.nil | apply Lend.keep | fail)))
    repeat' (first | refine Sp.h ?_ | refine Lk.r rfl ?_ | refine Rf.mk rfl ?_ | (refine All.mk ?_; intro _) | (apply TkB.r; (focus (repeat (first | exact Take.here | apply Take.there)))) | refine Ch.l ⟨rfl, rfl⟩ ?_ | (apply Fk.r; (focus (repeat (first | exact FillA.nil | (apply FillA.agg; (focus rfl); (focus rfl); (focus (repeat (first | exact SetAs.z | (apply SetAs.c; (focus (repeat (first | assumption | exact SetA.z | apply SetA.s)))))))) | (apply FillA.one; (focus rfl); (focus infer_instance); (focus (repeat (first | assumption | exact SetA.z | apply SetA.s)))))))) | refine Rf.mk ⟨rfl, rfl, rfl⟩ ?_ | fail)
    apply Cl.fx [mdl setsM, mgs L2, evA' ev3]
    focus (repeat' (first | exact FX.nil | (apply FX.sl; (focus (repeat (first | exact Take.here | apply Take.there))); (focus exact Nat.le_of_ble_eq_true rfl)) | (apply FX.le; (focus first | exact ALe.refl _ | exact ALe.nil)) | apply FX.agg | apply FX.tup))
    (apply Cl.p (app3_p); (focus repeat' (first | exact Lend.nil | apply Lend.keep | fail)))
    repeat' (first | refine Sp.h ?_ | refine Lk.r rfl ?_ | refine Rf.mk rfl ?_ | (apply TkB.r; (focus (repeat (first | exact Take.here | apply Take.there)))) | refine Ch.l ⟨rfl, rfl⟩ ?_ | fail)
    (apply Cl.p (val3_p); (focus repeat' (first | exact Lend.nil | apply Lend.keep | fail)))
    repeat' (first | refine Sp.h ?_ | refine Lk.r rfl ?_ | refine Rf.mk rfl ?_ | (refine All.mk ?_; intro _) | (apply Fk.r; (focus (repeat (first | exact FillA.nil | (apply FillA.agg; (focus rfl); (focus rfl); (focus (repeat (first | exact SetAs.z | (apply SetAs.c; (focus (repeat (first | assumption | exact SetA.z | apply SetA.s)))))))) | (apply FillA.one; (focus rfl); (focus infer_instance); (focus (repeat (first | assumption | exact SetA.z | apply SetA.s)))))))) | refine Rf.mk ⟨rfl, rfl, rfl⟩ ?_ | fail)
    apply Cl.fx [mgs L2, mgs L2]
    focus (repeat' (first | exact FX.nil | (apply FX.sl; (focus (repeat (first | exact Take.here | apply Take.there))); (focus exact Nat.le_of_ble_eq_true rfl)) | (apply FX.le; (focus first | exact ALe.refl _ | exact ALe.nil)) | apply FX.agg | apply FX.tup))
    (apply Cl.p (hsa); (focus repeat' (first | exact Lend.nil | apply Lend.keep | fail)))
    rw [decide_eq_true rfl]
    repeat' (first | refine Sp.h ?_ | refine Lk.r rfl ?_ | refine Rf.mk rfl ?_ | (apply Bd.t; (focus (first | assumption | omega | rfl))) | (refine All.mk ?_; intro _) | (apply Fk.r; (focus (repeat (first | exact FillA.nil | (apply FillA.agg; (focus rfl); (focus rfl); (focus (repeat (first | exact SetAs.z | (apply SetAs.c; (focus (repeat (first | assumption | exact SetA.z | apply SetA.s)))))))) | (apply FillA.one; (focus rfl); (focus infer_instance); (focus (repeat (first | assumption | exact SetA.z | apply SetA.s)))))))) | refine Rf.mk ⟨rfl, rfl, rfl⟩ ?_ | fail)
    apply Cl.fx [clks [[1], [0]], clks [[1], [0]]]
    focus (repeat' (first | exact FX.nil | (apply FX.sl; (focus (repeat (first | exact Take.here | apply Take.there))); (focus exact Nat.le_of_ble_eq_true rfl)) | (apply FX.le; (focus first | exact ALe.refl _ | exact ALe.nil)) | apply FX.agg | apply FX.tup))
    (apply Cl.p (hl2); (focus repeat' (first | exact Lend.nil | apply Lend.keep | fail)))
    rw [decide_eq_true rfl]
    repeat' (first | refine Sp.h ?_ | refine Lk.r rfl ?_ | refine Rf.mk rfl ?_ | (apply Bd.t; (focus (first | assumption | omega | rfl))) | (refine All.mk ?_; intro _) | (apply Fk.r; (focus (repeat (first | exact FillA.nil | (apply FillA.agg; (focus rfl); (focus rfl); (focus (repeat (first | exact SetAs.z | (apply SetAs.c; (focus (repeat (first | assumption | exact SetA.z | apply SetA.s)))))))) | (apply FillA.one; (focus rfl); (focus infer_instance); (focus (repeat (first | assumption | exact SetA.z | apply SetA.s)))))))) | refine Rf.mk ⟨rfl, rfl, rfl⟩ ?_ | fail)
    apply Cl.fx [clks [[1], [1]], clks [[1], [1]]]
    focus (repeat' (first | exact FX.nil | (apply FX.sl; (focus (repeat (first | exact Take.here | apply Take.there))); (focus exact Nat.le_of_ble_eq_true rfl)) | (apply FX.le; (focus first | exact ALe.refl _ | exact ALe.nil)) | apply FX.agg | apply FX.tup))
    (apply Cl.p (hl3); (focus repeat' (first | exact Lend.nil | apply Lend.keep | fail)))
    rw [decide_eq_true rfl]
    repeat' (first | refine Sp.h ?_ | refine Lk.r rfl ?_ | refine Rf.mk rfl ?_ | (apply Bd.t; (focus (first | assumption | omega | rfl))) | (refine Im.mk ?_; intro _) | (apply Ix.q; (focus exact rfl); (focus assumption)) | (apply Nm.r; (focus repeat (first | apply LN.cons | exact LN.nil))) | fail)
    exact Fin.p rfl (vb rfl)
end Go.Proofs.YtpgpdmmobblffaaGreat
namespace Go.Proofs.YtpgpdmmobblffaaGreat
open Go Go.CF
set_option maxRecDepth 20000
theorem addF_len (l : List MkS) (m : MkS) : (addF l m).2.length ≤ l.length + 1 := by
  unfold addF
  split
  · simp
  · split
    · simp
    · simp [insK]; omega
theorem cellF_len {e : EvS} {t : TblS} {u : Option UpS} {g : MgS} : (cellF e t u g).2.marks.length ≤ g.marks.length + 1 := by
  have hf : (fgK e.past g.marks).length ≤ g.marks.length := List.length_filter_le _ _
  match u with
  | none => simp [cellF]
  | some u =>
    simp only [cellF]
    split
    · exact addF_len _ _
    · split
      · simp only; omega
      · split
        · simp only; omega
        · split
          · simp only
            match hg : g.marks with
            | [] => exact addF_len _ _
            | x :: r => simp only [lastF]; repeat' split <;> simp
          · split
            · simp only
              have := addF_len (fgK e.past g.marks) ⟨e.rep, e.num, e.time, if isReg t.kind then u.2.2 else 0⟩
              omega
            · simp
theorem applyF_ok {m : ModS} {l : List MgS} {e : EvS} (h : (applyF m l e).1 = 0) : ValL (mrgF m) l ∧ EvV m (e.past.length : Nat) e ∧ (applyF m l e).2.length = l.length ∧
    (∀ (i : Nat) g, l[i]? = some g → (e.kind = 0 → updF (usF m e) i = none) → (applyF m l e).2[i]? = some g) ∧ ∀ g ∈ (applyF m l e).2, g.marks.length ≤ 1000000 := by
  have hv : ValL (mrgF m) l ∧ EvV m (e.past.length : Nat) e := Classical.byContradiction fun h9 => by
    rw [applyF, if_pos h9] at h
    cases h
  have hmk : ∀ (i : Nat) g, l[i]? = some g → ∃ t, (mrgF m)[i]? = some t ∧ ValG t g := fun i g hi => by
    obtain ⟨t, ht⟩ := get_of (l := mrgF m) (i := i) (by have := hv.1.1; have := (List.getElem?_eq_some_iff.1 hi).1; omega)
    exact ⟨t, ht, hv.1.2 i t g ht hi⟩
  refine ⟨hv.1, hv.2, ?_⟩
  by_cases hk : e.kind = 0
  rotate_left
  · have hF : applyF m l e = (0, l) := by rw [applyF, if_neg (fun h9 => h9 hv), if_pos hk]
    rw [hF]
    refine ⟨rfl, fun i g hg _ => hg, fun g hg => ?_⟩
    obtain ⟨i, hi⟩ := List.getElem?_of_mem hg
    obtain ⟨t, _, h9⟩ := hmk i g hi
    have := h9.1.2.2.2
    omega
  have hF : applyF m l e = gatherF (cellsF (mrgF m) l (usF m e) e) := by rw [applyF, if_neg (fun h9 => h9 hv), if_neg (fun h9 => h9 hk)]
  rw [hF] at h
  have hG : gatherF (cellsF (mrgF m) l (usF m e) e) = (0, (cellsF (mrgF m) l (usF m e) e).map (·.2)) := by
    unfold gatherF at h ⊢
    cases hf : (cellsF (mrgF m) l (usF m e) e).find? fun p => decide (p.1 ≠ 0 ∧ p.1 ≠ 8) with
    | some p =>
      have := List.find?_some hf
      rw [hf] at h
      simp at this
      exact absurd h this.1
    | none =>
      rw [hf] at h
      simp only at h ⊢
      split at h
      · cases h
      · rename_i h9; rw [if_neg h9]
  rw [hF, hG]
  refine ⟨by simp [cellsF_len], fun i g hg hu => ?_, fun g hg => ?_⟩
  · obtain ⟨t, ht, _⟩ := hmk i g hg
    rw [List.getElem?_map, cellsF_at ht hg, hu hk]
    rfl
  · obtain ⟨p, hp, rfl⟩ := List.mem_map.1 hg
    obtain ⟨i, hi⟩ := List.getElem?_of_mem hp
    have hil := (List.getElem?_eq_some_iff.1 hi).1
    rw [cellsF_len] at hil
    obtain ⟨x, hx⟩ := get_of hil
    obtain ⟨t, ht, h9⟩ := hmk i x hx
    rw [cellsF_at ht hx] at hi
    cases hi
    have h1 := cellF_len (e := e) (t := t) (u := updF (usF m e) i) (g := x)
    have := h9.1.2.2.2
    omega
end Go.Proofs.YtpgpdmmobblffaaGreat
namespace Go.Proofs.YtpgpdmmobblffaaGreat
open Go Go.CF
set_option maxRecDepth 20000
theorem join_z2 {a b : List Int} (ha : ValC a) (hb : ValC b) (hl : a.length = b.length) : CallP Tryz.prog 36 [clks [a, b]] (ints (joinC a b)) := join_z ((alike2 a b).2 ⟨ha, hb, hl⟩)
theorem meet_z2 {a b : List Int} (ha : ValC a) (hb : ValC b) (hl : a.length = b.length) : CallP Tryz.prog 62 [clks [a, b]] (ints (zipC min a b)) :=
  CallA.fz (by have := ha.2; simp [zipC]; omega) (meet_o [a, b] ((alike2 a b).2 ⟨ha, hb, hl⟩))
theorem cut_z (l : List EvS) (c : List Int) (hl : l.length ≤ 1000) : CallP Tryz.prog 35 [evs l, ints c] (evs (cutL l c)) :=
  CallA.fz (by have : (cutL l c).length ≤ l.length := List.length_filter_le _ _; omega) (cut_o l c hl)
theorem clock_z {n : Nat} {l : List EvS} (hn : 1 ≤ n ∧ n ≤ 5) (hc : ClosedE l) (hl : ∀ e ∈ l, e.past.length = n) : CallP Tryz.prog 60 [.val (.int .i64 n), evs l] (.tup [ints (clkE n l), .val (.int .i64 0)]) :=
  CallA.fzt (by rw [clkE_len]; omega) (clock_ok n l hn hc hl)
def FitO (t : TblS) (u : UpS) : Prop := (isSt t.kind ↔ u.1 = 0 ∨ u.1 = 1) ∧ (¬ isSt t.kind → t.lo ≤ u.2.2 ∧ u.2.2 ≤ t.hi)
set_option maxHeartbeats 4000000 in
theorem fitting_c (m : ModS) (hm : MOK m) : CallF Tryz.prog 59 [mdl m] (FitU m) := by
  have hmg := merged32_p m hm.lay
  refine CallA.of pg ord59 Tryz.func59 rfl Tryz.ntmps59 Tryz.results59 rfl fun h0 G0 O0 => ?_
  repeat' (first | refine Sp.h ?_ | refine Lk.r rfl ?_ | refine Rf.mk rfl ?_ | (refine Im.mk ?_; intro _) | (refine All.mk ?_; intro _) | (apply TkB.r; (focus (repeat (first | exact Take.here | apply Take.there)))) | refine Ch.l ⟨rfl, rfl⟩ ?_ | fail | (apply Cl.p (hmg); (focus repeat' (first | exact Lend.nil | apply Lend.keep | fail))))
  refine CA.loop (fun i : Nat => ⟨[(3, tbls (mrgF m)), (13, .sl 5 m.acts actC), (14, it (m.acts.length : Nat)), (15, it i)], []⟩) (fun i => i ≤ m.acts.length ∧ ∀ a ∈ m.acts.take i, ∀ u ∈ a.eff.updates, ∀ (i : Nat) t, u.2.1 = i → (mrgF m)[i]? = some t → FitO t u) (fun i => m.acts.length - i) 0 ⟨by (repeat (first | exact trivial | refine ⟨rfl, ?_⟩)), by (repeat (first | exact Subl.nil | refine Subl.cons (by (repeat (first | exact Take.here | apply Take.there))) ?_))⟩ ⟨Nat.zero_le _, by simp⟩ ?_
  rintro i ⟨hi, ha⟩
  by_cases hin : i < m.acts.length
  · obtain ⟨a, hx⟩ := get_of hin
    have heo := hm.eff a (List.mem_of_getElem? hx)
    repeat' (first | refine Sp.h ?_ | refine Lk.r rfl ?_ | refine Rf.mk rfl ?_ | (apply Bd.t; (focus (first | assumption | omega | rfl))) | (refine Im.mk ?_; intro _) | (refine All.mk ?_; intro _) | (apply TkB.r; (focus (repeat (first | exact Take.here | apply Take.there)))) | (apply Ix.q; (focus exact rfl); (focus assumption)) | refine Ch.l ⟨rfl, rfl⟩ ?_ | (apply SetAsk.r; (focus (repeat (first | exact SetAs.z | (apply SetAs.c; (focus (repeat (first | assumption | exact SetA.z | apply SetA.s)))))))) | (apply Nm.r; (focus repeat (first | apply LN.cons | exact LN.nil))) | fail)
    refine CA.loop (fun k : Nat => ⟨[(3, tbls (mrgF m)), (13, .sl 5 m.acts actC), (14, it (m.acts.length : Nat)), (15, it i), (21, .sl 3 a.eff.updates updC), (22, it (a.eff.updates.length : Nat)), (23, it k)], []⟩) (fun k => k ≤ a.eff.updates.length ∧ ∀ u ∈ a.eff.updates.take k, ∀ (i : Nat) t, u.2.1 = i → (mrgF m)[i]? = some t → FitO t u) (fun k => a.eff.updates.length - k) 0 ⟨by (repeat (first | exact trivial | refine ⟨rfl, ?_⟩)), by (repeat (first | exact Subl.nil | refine Subl.cons (by (repeat (first | exact Take.here | apply Take.there))) ?_))⟩ ⟨Nat.zero_le _, by simp⟩ ?_
    rintro k ⟨hk, hb⟩
    by_cases hkn : k < a.eff.updates.length
    · obtain ⟨u, hu⟩ := get_of hkn
      obtain ⟨u1, u2⟩ := heo.u u (List.mem_of_getElem? hu)
      obtain ⟨t, ht⟩ := get_of (l := mrgF m) (i := u.2.1.toNat) (by omega)
      obtain ⟨uk, uc, uv⟩ := u
      simp only at u1 u2 ht
      (repeat' (first | (show CA _ _ (Code.region 9 _ _) _ _; apply Stopped.out) | refine Sp.h ?_ | refine Lk.r rfl ?_ | refine Rf.mk rfl ?_ | (apply Bd.t; (focus (first | assumption | omega | rfl))) | (refine All.mk ?_; intro _) | (apply TkB.r; (focus (repeat (first | exact Take.here | apply Take.there)))) | (apply Ix.q; (focus exact rfl); (focus assumption)) | (apply Ix.r; (focus assumption); (focus omega)) | refine Ch.l ⟨rfl, rfl⟩ ?_ | (apply SetAsk.r; (focus (repeat (first | exact SetAs.z | (apply SetAs.c; (focus (repeat (first | assumption | exact SetA.z | apply SetA.s)))))))) | (apply Nm.r; (focus repeat (first | apply LN.cons | exact LN.nil))) | fail)); any_goals apply Stopped.mk
      rename_i b7 b8
      refine CA.cut (fun b : Bool => ⟨[(3, tbls (mrgF m)), (13, .sl 5 m.acts actC), (14, it (m.acts.length : Nat)), (15, it i), (21, .sl 3 a.eff.updates updC), (22, it (a.eff.updates.length : Nat)), (23, it k), (7, pm b7), (8, pm b8), (9, bl b)], [blkR b7 61 (updC (uk, uc, uv)), blkR b8 84 (tblC t)]⟩) (fun b => b = true ↔ isSt t.kind) ?_ ?_
      · repeat' (first | refine Sp.h ?_ | refine Lk.r rfl ?_ | refine Rf.mk rfl ?_ | (apply Bd.t; (focus (first | assumption | omega | rfl))) | (apply Bd.f; (focus (first | assumption | omega | exact Bool.false_ne_true))) | (refine Bd.mk ?_ ?_ <;> intro _) | (apply TkB.r; (focus (repeat (first | exact Take.here | apply Take.there)))) | fail)
        all_goals exact PA.lp _ ⟨by (repeat (first | exact trivial | refine ⟨rfl, ?_⟩)), by (repeat (first | exact Subl.nil | refine Subl.cons (by (repeat (first | exact Take.here | apply Take.there))) ?_))⟩ (by unfold isSt; simp; omega)
      rintro b hb1
      simp only
      (repeat' (first | (show CA _ _ (Code.region 10 _ _) _ _; apply Stopped.out) | refine Sp.h ?_ | fail)); any_goals apply Stopped.mk
      refine CA.cut (fun c : Bool => ⟨[(3, tbls (mrgF m)), (13, .sl 5 m.acts actC), (14, it (m.acts.length : Nat)), (15, it i), (21, .sl 3 a.eff.updates updC), (22, it (a.eff.updates.length : Nat)), (23, it k), (69, bl c)], []⟩) (fun c => c = false → FitO t (uk, uc, uv)) ?_ ?_
      · have hf : FitO t (uk, uc, uv) ↔ (b = true ↔ uk = 0 ∨ uk = 1) ∧ (b ≠ true → t.lo ≤ uv ∧ uv ≤ t.hi) := by unfold FitO; simp only; rw [← hb1]
        cases b
        all_goals repeat' (first | refine Sp.h ?_ | refine Lk.r rfl ?_ | refine Rf.mk rfl ?_ | (apply Bd.t; (focus (first | assumption | omega | rfl))) | (apply Bd.f; (focus (first | assumption | omega | exact Bool.false_ne_true))) | (refine Bd.mk ?_ ?_ <;> intro _) | (apply TkB.r; (focus (repeat (first | exact Take.here | apply Take.there)))) | fail)
        all_goals exact PA.lp _ ⟨by (repeat (first | exact trivial | refine ⟨rfl, ?_⟩)), by (repeat (first | exact Subl.nil | refine Subl.cons (by (repeat (first | exact Take.here | apply Take.there))) ?_))⟩ (by rw [hf]; first | (simp; done) | (simp; omega) | (simp at *; omega))
      rintro c hc
      simp only
      cases c
      · repeat' (first | refine Sp.h ?_ | refine Lk.r rfl ?_ | refine Rf.mk rfl ?_ | (apply Ov.n; (focus first | omega | (simp <;> omega))) | fail)
        refine PA.lp (k + 1) ⟨by (repeat (first | exact trivial | refine ⟨rfl, ?_⟩)), by (repeat (first | exact Subl.nil | refine Subl.cons (by (repeat (first | exact Take.here | apply Take.there))) ?_))⟩ ⟨⟨hkn, all_succ hu hb fun j t' hj ht' => ?_⟩, by omega⟩
        have : uc.toNat = j := by simp only at hj; omega
        rw [this] at ht
        rw [ht] at ht'; cases ht'
        exact hc rfl
      · repeat' (first | refine Sp.h ?_ | refine Lk.r rfl ?_ | refine Rf.mk rfl ?_ | (apply Nm.r; (focus repeat (first | apply LN.cons | exact LN.nil))) | fail)
        exact ⟨_, _, .one (.same (.nil (by (repeat (first | exact Subl.nil | refine Subl.cons (by (repeat (first | exact Take.here | apply Take.there))) ?_))))), _, rfl, rfl, fun h => by cases h⟩
    · have hke : k = a.eff.updates.length := by omega
      subst hke
      rw [List.take_length] at hb
      repeat' (first | refine Sp.h ?_ | refine Lk.r rfl ?_ | refine Rf.mk rfl ?_ | (apply Bd.f; (focus (first | assumption | omega | exact Bool.false_ne_true))) | (apply Ov.n; (focus first | omega | (simp <;> omega))) | fail)
      exact PA.lp (i + 1) ⟨by (repeat (first | exact trivial | refine ⟨rfl, ?_⟩)), by (repeat (first | exact Subl.nil | refine Subl.cons (by (repeat (first | exact Take.here | apply Take.there))) ?_))⟩ ⟨⟨hin, all_succ hx ha hb⟩, by omega⟩
  · have hie : i = m.acts.length := by omega
    subst hie
    rw [List.take_length] at ha
    repeat' (first | refine Sp.h ?_ | refine Lk.r rfl ?_ | refine Rf.mk rfl ?_ | (apply Bd.f; (focus (first | assumption | omega | exact Bool.false_ne_true))) | (apply Nm.r; (focus repeat (first | apply LN.cons | exact LN.nil))) | fail)
    exact ⟨_, _, .one (.same (.nil (by (repeat (first | exact Subl.nil | refine Subl.cons (by (repeat (first | exact Take.here | apply Take.there))) ?_))))), _, rfl, rfl, fun _ => ha⟩
def SuitE (m : ModS) (l : List EvS) : Prop := MOK m ∧ FewV l ∧ ClosedE l ∧ FitU m ∧ ∀ e ∈ l, EvV m (n0 l : Nat) e
set_option maxHeartbeats 4000000 in
theorem suits34_c (m : ModS) (l : List EvS) : CallF Tryz.prog 23 [mdl m, evs l] (SuitE m l) := by
  have hfe := few32_c m l
  refine CallA.of pg ord23 Tryz.func23 rfl Tryz.ntmps23 Tryz.results23 rfl fun h0 G0 O0 => ?_
  repeat' (first | refine Sp.h ?_ | refine Lk.r rfl ?_ | refine Rf.mk rfl ?_ | (refine All.mk ?_; intro _) | (apply TkB.r; (focus (repeat (first | exact Take.here | apply Take.there)))) | refine Ch.l ⟨rfl, rfl⟩ ?_ | fail)
  (apply Cl.use (hfe); (focus repeat' (first | exact Lend.nil | apply Lend.keep | fail)); (focus (repeat (first | exact Takes.nil | (apply Takes.cons; (focus (repeat (first | exact Take.here | apply Take.there))))))); (focus rfl))
  rintro _ _ ⟨b, rfl, rfl, h1⟩
  cases b
  · repeat' (first | refine Sp.h ?_ | refine Lk.r rfl ?_ | refine Rf.mk rfl ?_ | (apply Bd.f; (focus (first | assumption | omega | exact Bool.false_ne_true))) | (apply Nm.r; (focus repeat (first | apply LN.cons | exact LN.nil))) | fail)
    exact ⟨_, _, .one (.same (.nil (by (repeat (first | exact Subl.nil | refine Subl.cons (by (repeat (first | exact Take.here | apply Take.there))) ?_))))), _, rfl, rfl, fun h => by cases h⟩
  obtain ⟨hm, hf⟩ := h1 rfl
  by_cases hc : ClosedE l
  rotate_left
  · repeat' (first | refine Sp.h ?_ | refine Lk.r rfl ?_ | refine Rf.mk rfl ?_ | (apply Bd.t; (focus (first | assumption | omega | rfl))) | (apply Bd.f; (focus (first | assumption | omega | exact Bool.false_ne_true))) | (apply Nm.r; (focus repeat (first | apply LN.cons | exact LN.nil))) | fail | (apply Cl.p (closed_p l); (focus repeat' (first | exact Lend.nil | apply Lend.keep | fail))))
    exact ⟨_, _, .one (.same (.nil (by (repeat (first | exact Subl.nil | refine Subl.cons (by (repeat (first | exact Take.here | apply Take.there))) ?_))))), _, rfl, rfl, fun h => by cases h⟩
  have hfi := fitting_c m hm
  repeat' (first | refine Sp.h ?_ | refine Lk.r rfl ?_ | refine Rf.mk rfl ?_ | (apply Bd.t; (focus (first | assumption | omega | rfl))) | (apply TkB.r; (focus (repeat (first | exact Take.here | apply Take.there)))) | refine Ch.l ⟨rfl, rfl⟩ ?_ | fail | (apply Cl.p (closed_p l); (focus repeat' (first | exact Lend.nil | apply Lend.keep | fail))))
  (apply Cl.use (hfi); (focus repeat' (first | exact Lend.nil | apply Lend.keep | fail)); (focus (repeat (first | exact Takes.nil | (apply Takes.cons; (focus (repeat (first | exact Take.here | apply Take.there))))))); (focus rfl))
  rintro _ _ ⟨b, rfl, rfl, h2⟩
  cases b
  · repeat' (first | refine Sp.h ?_ | refine Lk.r rfl ?_ | refine Rf.mk rfl ?_ | (apply Bd.t; (focus (first | assumption | omega | rfl))) | (apply Bd.f; (focus (first | assumption | omega | exact Bool.false_ne_true))) | (apply Nm.r; (focus repeat (first | apply LN.cons | exact LN.nil))) | fail)
    exact ⟨_, _, .one (.same (.nil (by (repeat (first | exact Subl.nil | refine Subl.cons (by (repeat (first | exact Take.here | apply Take.there))) ?_))))), _, rfl, rfl, fun h => by cases h⟩
  have hft := h2 rfl
  repeat' (first | refine Sp.h ?_ | refine Lk.r rfl ?_ | refine Rf.mk rfl ?_ | (apply Bd.t; (focus (first | assumption | omega | rfl))) | (refine Im.mk ?_; intro _) | fail)
  rename_i b2 _
  refine CA.loop (fun i : Nat => ⟨[(1, evs l), (2, pm b2), (21, evs l), (22, it (l.length : Nat)), (23, it i)], [mR b2 m]⟩) (fun i => i ≤ l.length ∧ ∀ e ∈ l.take i, EvV m (n0 l : Nat) e) (fun i => l.length - i) 0 ⟨by (repeat (first | exact trivial | refine ⟨rfl, ?_⟩)), by (repeat (first | exact Subl.nil | refine Subl.cons (by (repeat (first | exact Take.here | apply Take.there))) ?_))⟩ ⟨Nat.zero_le _, by simp⟩ ?_
  rintro i ⟨hi, ha⟩
  by_cases hin : i < l.length
  · obtain ⟨e, he⟩ := get_of hin
    obtain ⟨d, hd⟩ := get_of (l := l) (i := 0) (by omega)
    have hn : n0 l = d.past.length := by rw [n0, hd]; rfl
    have hev := evalid_p m (d.past.length : Nat) e
    by_cases hv : EvV m (d.past.length : Nat) e
    · repeat' (first | refine Sp.h ?_ | refine Lk.r rfl ?_ | refine Rf.mk rfl ?_ | (apply Bd.t; (focus (first | assumption | omega | rfl))) | refine OpK.r rfl ?_ | (refine Im.mk ?_; intro _) | (refine All.mk ?_; intro _) | (apply TkB.r; (focus (repeat (first | exact Take.here | apply Take.there)))) | (apply Ix.q; (focus exact rfl); (focus assumption)) | refine Ch.l ⟨rfl, rfl⟩ ?_ | (apply SetAsk.r; (focus (repeat (first | exact SetAs.z | (apply SetAs.c; (focus (repeat (first | assumption | exact SetA.z | apply SetA.s)))))))) | (apply Nm.r; (focus repeat (first | apply LN.cons | exact LN.nil))) | (apply CA.draw; (focus rfl); (focus kernel_rfl); (focus kernel_rfl); (focus repeat' (first | apply ON.one | exact ON.done | exact ON.none | apply ON.alt)); (focus rfl)) | (apply Ov.n; (focus first | omega | (simp <;> omega))) | fail | (apply Cl.p (hev); (focus repeat' (first | exact Lend.nil | apply Lend.keep | fail))))
      exact PA.lp (i + 1) ⟨by (repeat (first | exact trivial | refine ⟨rfl, ?_⟩)), by (repeat (first | exact Subl.nil | refine Subl.cons (by (repeat (first | exact Take.here | apply Take.there))) ?_))⟩ ⟨⟨hin, all_succ he ha (by rw [hn]; exact hv)⟩, by omega⟩
    · repeat' (first | refine Sp.h ?_ | refine Lk.r rfl ?_ | refine Rf.mk rfl ?_ | (apply Bd.t; (focus (first | assumption | omega | rfl))) | (apply Bd.f; (focus (first | assumption | omega | exact Bool.false_ne_true))) | refine OpK.r rfl ?_ | (refine Im.mk ?_; intro _) | (refine All.mk ?_; intro _) | (apply TkB.r; (focus (repeat (first | exact Take.here | apply Take.there)))) | (apply Ix.q; (focus exact rfl); (focus assumption)) | refine Ch.l ⟨rfl, rfl⟩ ?_ | (apply SetAsk.r; (focus (repeat (first | exact SetAs.z | (apply SetAs.c; (focus (repeat (first | assumption | exact SetA.z | apply SetA.s)))))))) | (apply Nm.r; (focus repeat (first | apply LN.cons | exact LN.nil))) | (apply CA.draw; (focus rfl); (focus kernel_rfl); (focus kernel_rfl); (focus repeat' (first | apply ON.one | exact ON.done | exact ON.none | apply ON.alt)); (focus rfl)) | fail | (apply Cl.p (hev); (focus repeat' (first | exact Lend.nil | apply Lend.keep | fail))))
      exact ⟨_, _, .one (.same (.nil (by (repeat (first | exact Subl.nil | refine Subl.cons (by (repeat (first | exact Take.here | apply Take.there))) ?_))))), _, rfl, rfl, fun h => by cases h⟩
  · have hie : i = l.length := by omega
    subst hie
    rw [List.take_length] at ha
    repeat' (first | refine Sp.h ?_ | refine Lk.r rfl ?_ | refine Rf.mk rfl ?_ | (apply Bd.f; (focus (first | assumption | omega | exact Bool.false_ne_true))) | (apply Nm.r; (focus repeat (first | apply LN.cons | exact LN.nil))) | fail)
    exact ⟨_, _, .one (.same (.nil (by (repeat (first | exact Subl.nil | refine Subl.cons (by (repeat (first | exact Take.here | apply Take.there))) ?_))))), _, rfl, rfl, fun _ => ⟨hm, hf, hc, hft, ha⟩⟩
/-- Events applied one after the other. -/
inductive Run (m : ModS) : List MgS → List EvS → List MgS → Prop
  | nil {l : List MgS} : Run m l [] l
  | cons {l l' r : List MgS} {e : EvS} {O : List EvS} : applyF m l e = (0, l') → Run m l' O r → Run m l (e :: O) r
theorem applyZ_p {m : ModS} {l : List MgS} {e : EvS} {F : List MgS} (hm : MOK m) (hF : applyF m l e = (0, F)) : CallP Tryz.prog 12 [mdl m, mgs l, evA' e] (.tup [mgs F, it 0]) := by
  obtain ⟨h1, _, h3, _, h5⟩ := applyF_ok (m := m) (l := l) (e := e) (by rw [hF])
  rw [hF] at h3 h5
  have := h1.1
  have := hm.mrg
  exact applyOK_p m l e F hm hF (by simp only at h3; omega) h5
set_option maxHeartbeats 4000000 in
theorem run34_p {m : ModS} {l r : List MgS} {O : List EvS} (hm : MOK m) (h : Run m l O r) : CallP Tryz.prog 30 [mdl m, mgs l, evs O] (.tup [mgs r, bl true]) := by
  refine CallA.of pg ord30 Tryz.func30 rfl Tryz.ntmps30 Tryz.results30 rfl fun h0 G0 O0 => ?_
  repeat' (first | refine Sp.h ?_ | refine Lk.r rfl ?_ | refine Rf.mk rfl ?_ | (refine Im.mk ?_; intro _) | (refine All.mk ?_; intro _) | fail)
  rename_i b3 _
  refine CA.loop (fun x : Nat × List MgS => ⟨[(1, mgs x.2), (3, pm b3), (12, evs O), (13, it (O.length : Nat)), (14, it x.1)], [mR b3 m]⟩) (fun x => x.1 ≤ O.length ∧ Run m x.2 (O.drop x.1) r) (fun x => O.length - x.1) (0, l) ⟨by (repeat (first | exact trivial | refine ⟨rfl, ?_⟩)), by (repeat (first | exact Subl.nil | refine Subl.cons (by (repeat (first | exact Take.here | apply Take.there))) ?_))⟩ ⟨Nat.zero_le _, by simpa using h⟩ ?_
  rintro ⟨i, q⟩ ⟨hi, hr⟩
  simp only at hi hr
  simp only
  by_cases hin : i < O.length
  · obtain ⟨e, he⟩ := get_of hin
    have hdr : O.drop i = e :: O.drop (i + 1) := by
      have h9 := List.drop_eq_getElem_cons hin
      rw [(List.getElem?_eq_some_iff.1 he).2] at h9
      exact h9
    rw [hdr] at hr
    cases hr with
    | @cons _ q' _ _ _ h1 h2 =>
      have hap := applyZ_p hm h1
      repeat' (first | refine Sp.h ?_ | refine Lk.r rfl ?_ | refine Rf.mk rfl ?_ | (apply Bd.t; (focus (first | assumption | omega | rfl))) | (refine All.mk ?_; intro _) | (apply TkB.r; (focus (repeat (first | exact Take.here | apply Take.there)))) | (apply Ix.q; (focus exact rfl); (focus assumption)) | refine Ch.l ⟨rfl, rfl⟩ ?_ | (apply SetAsk.r; (focus (repeat (first | exact SetAs.z | (apply SetAs.c; (focus (repeat (first | assumption | exact SetA.z | apply SetA.s)))))))) | (apply Nm.r; (focus repeat (first | apply LN.cons | exact LN.nil))) | (apply Ov.n; (focus first | omega | (simp <;> omega))) | fail | (apply Cl.p (hap); (focus repeat' (first | exact Lend.nil | apply Lend.keep | fail))))
      exact PA.lp (i + 1, q') ⟨by (repeat (first | exact trivial | refine ⟨rfl, ?_⟩)), by (repeat (first | exact Subl.nil | refine Subl.cons (by (repeat (first | exact Take.here | apply Take.there))) ?_))⟩ ⟨⟨hin, h2⟩, by simp only; omega⟩
  · have hie : i = O.length := by omega
    subst hie
    rw [List.drop_length] at hr
    cases hr
    repeat' (first | refine Sp.h ?_ | refine Lk.r rfl ?_ | refine Rf.mk rfl ?_ | (apply Bd.f; (focus (first | assumption | omega | exact Bool.false_ne_true))) | (apply Nm.r; (focus repeat (first | apply LN.cons | exact LN.nil))) | fail)
    exact Fin.p rfl rfl
set_option maxHeartbeats 4000000 in
theorem part34_p {l : List EvS} {c : List Int} (hc : ClosedE l) (hl : l.length ≤ 1000) (hv : ValC c) (hcl : c.length = n0 l) : CallP Tryz.prog 25 [evs l, ints c] (.tup [evs (cutL l (partC l c)), ints (partC l c)]) := by
  have hk := clock_z (n := c.length) (l := l) hv.2 hc fun e he => by rw [(hc.2.2.1 e he).2, hcl]
  have hkv : ValC (clkE c.length l) := clkE_val hv.2 fun e he => formed_num (hc.2.2.1 e he).1
  have hm := meet_z2 hv hkv (by rw [clkE_len])
  obtain ⟨p1, p2⟩ := part1_ok hc hv hcl
  have hcu := cut_z l (part1 l c) hl
  have hcu2 := cut_z l (partC l c) hl
  have hxs : ∀ x ∈ cutL l (part1 l c), ValC x.past ∧ x.past.length = n0 l := fun x hx => by
    have := hc.2.2.1 x (mem_cut.1 hx).1
    exact ⟨this.1.1, this.2⟩
  obtain ⟨xs, hxse⟩ : ∃ xs, xs = cutL l (part1 l c) := ⟨_, rfl⟩
  have hpc : partC l c = xs.foldl (fun k x => joinC k x.past) (part1 l c) := by rw [hxse]; rfl
  rw [← hxse] at hxs hcu
  refine CallA.of pg ord25 Tryz.func25 rfl Tryz.ntmps25 Tryz.results25 rfl fun h0 G0 O0 => ?_
  repeat' (first | refine Sp.h ?_ | refine Lk.r rfl ?_ | refine Rf.mk rfl ?_ | (apply Bd.t; (focus (first | assumption | omega | rfl))) | (refine Im.mk ?_; intro _) | (refine All.mk ?_; intro _) | (apply Fk.r; (focus (repeat (first | exact FillA.nil | (apply FillA.agg; (focus rfl); (focus rfl); (focus (repeat (first | exact SetAs.z | (apply SetAs.c; (focus (repeat (first | assumption | exact SetA.z | apply SetA.s)))))))) | (apply FillA.one; (focus rfl); (focus infer_instance); (focus (repeat (first | assumption | exact SetA.z | apply SetA.s)))))))) | refine Rf.mk ⟨rfl, rfl, rfl⟩ ?_ | fail | (apply Cl.p (hk); (focus repeat' (first | exact Lend.nil | apply Lend.keep | fail))))
  (apply Cl.fz; (focus repeat' (first | exact FZ.nil | (apply FZ.fz; (focus (repeat (first | exact Take.here | apply Take.there))); (focus first | omega | decide | exact Nat.le_of_ble_eq_true rfl | (simp <;> omega))) | apply FZ.agg | apply FZ.same)))
  (apply Cl.p (hm); (focus repeat' (first | exact Lend.nil | (apply Lend.mp; (focus rfl)) | fail)))
  rw [show zipC min c (clkE c.length l) = part1 l c from rfl]
  repeat' (first | refine Sp.h ?_ | refine Lk.r rfl ?_ | refine Rf.mk rfl ?_ | (refine Im.mk ?_; intro _) | fail | (apply Cl.p (hcu); (focus repeat' (first | exact Lend.nil | apply Lend.keep | fail))))
  refine CA.loop (fun x : Nat × List Int => ⟨[(0, evs l), (1, ints x.2), (28, evs xs), (29, it (xs.length : Nat)), (30, it x.1)], []⟩) (fun x => x.1 ≤ xs.length ∧ x.2 = (xs.take x.1).foldl (fun k x => joinC k x.past) (part1 l c)) (fun x => xs.length - x.1) (0, part1 l c) ⟨by (repeat (first | exact trivial | refine ⟨rfl, ?_⟩)), by (repeat (first | exact Subl.nil | refine Subl.cons (by (repeat (first | exact Take.here | apply Take.there))) ?_))⟩ ⟨Nat.zero_le _, rfl⟩ ?_
  rintro ⟨i, k⟩ ⟨hi, hk⟩
  simp only at hi hk
  simp only
  obtain ⟨f1, f2, -⟩ := fold_has (xs.take i) (part1 l c) (fun x hx => hxs x (List.mem_of_mem_take hx)) p1 p2
  rw [← hk] at f1 f2
  by_cases hin : i < xs.length
  · obtain ⟨e, he⟩ := get_of hin
    obtain ⟨g1, g2⟩ := hxs e (List.mem_of_getElem? he)
    have hj := join_z2 f1 g1 (by omega)
    repeat' (first | refine Sp.h ?_ | refine Lk.r rfl ?_ | refine Rf.mk rfl ?_ | (apply Bd.t; (focus (first | assumption | omega | rfl))) | (refine All.mk ?_; intro _) | (apply TkB.r; (focus (repeat (first | exact Take.here | apply Take.there)))) | (apply Ix.q; (focus exact rfl); (focus assumption)) | refine Ch.l ⟨rfl, rfl⟩ ?_ | (apply SetAsk.r; (focus (repeat (first | exact SetAs.z | (apply SetAs.c; (focus (repeat (first | assumption | exact SetA.z | apply SetA.s)))))))) | (apply Fk.r; (focus (repeat (first | exact FillA.nil | (apply FillA.agg; (focus rfl); (focus rfl); (focus (repeat (first | exact SetAs.z | (apply SetAs.c; (focus (repeat (first | assumption | exact SetA.z | apply SetA.s)))))))) | (apply FillA.one; (focus rfl); (focus infer_instance); (focus (repeat (first | assumption | exact SetA.z | apply SetA.s)))))))) | (apply Nm.r; (focus repeat (first | apply LN.cons | exact LN.nil))) | refine Rf.mk ⟨rfl, rfl, rfl⟩ ?_ | fail)
    (apply Cl.fz; (focus repeat' (first | exact FZ.nil | (apply FZ.fz; (focus (repeat (first | exact Take.here | apply Take.there))); (focus first | omega | decide | exact Nat.le_of_ble_eq_true rfl | (simp <;> omega))) | apply FZ.agg | apply FZ.same)))
    (apply Cl.p (hj); (focus repeat' (first | exact Lend.nil | (apply Lend.mp; (focus rfl)) | fail)))
    repeat' (first | refine Sp.h ?_ | refine Lk.r rfl ?_ | refine Rf.mk rfl ?_ | (apply Ov.n; (focus first | omega | (simp <;> omega))) | fail)
    exact PA.lp (i + 1, joinC k e.past) ⟨by (repeat (first | exact trivial | refine ⟨rfl, ?_⟩)), by (repeat (first | exact Subl.nil | refine Subl.cons (by (repeat (first | exact Take.here | apply Take.there))) ?_))⟩ ⟨⟨hin, by simp only; rw [List.take_add_one, he, List.foldl_append, ← hk]; rfl⟩, by simp only; omega⟩
  · have hie : i = xs.length := by omega
    subst hie
    rw [List.take_length, ← hpc] at hk
    subst hk
    repeat' (first | refine Sp.h ?_ | refine Lk.r rfl ?_ | refine Rf.mk rfl ?_ | (apply Bd.f; (focus (first | assumption | omega | exact Bool.false_ne_true))) | (apply Nm.r; (focus repeat (first | apply LN.cons | exact LN.nil))) | fail | (apply Cl.p (hcu2); (focus repeat' (first | exact Lend.nil | apply Lend.keep | fail))))
    exact Fin.p rfl rfl
end Go.Proofs.YtpgpdmmobblffaaGreat
namespace Go.Proofs.YtpgpdmmobblffaaGreat
open Go Go.CF
set_option maxRecDepth 20000
theorem ordE_mem {l : List EvS} {e : EvS} : e ∈ ordE l ↔ e ∈ l := (ordE_perm l).mem_iff.symm
theorem ordE_len (l : List EvS) : (ordE l).length = l.length := (ordE_perm l).length_eq.symm
theorem uniqP_sub {l X : List EvS} (h : UniqP l) (hX : ∀ e ∈ X, e ∈ l) : UniqP X := fun a ha b hb => h a (hX a ha) b (hX b hb)
/-- Events of a closed list that stand in order are applied without an error. -/
theorem run_ok {m : ModS} {l : List EvS} (hs : SuitE m l) : ∀ (O P : List EvS) (k : List MgS), (∀ e ∈ P ++ O, e ∈ l) → (P ++ O).Pairwise LtE → P.length + O.length ≤ 1000 → KnL m P k → ∃ r, Run m k O r ∧ KnL m (P ++ O) r := by
  obtain ⟨hm, hfw, hc, hf, hv⟩ := hs
  intro O
  induction O with
  | nil => intro P k _ _ _ hk; exact ⟨k, .nil, by simpa using hk⟩
  | cons e O ih =>
    intro P k h1 h2 h3 hk
    have hel : e ∈ l := h1 e (by simp)
    have hPl : ∀ p ∈ P, p ∈ l := fun p hp => h1 p (by simp [hp])
    have hlt : ∀ p ∈ P, LtE p e := fun p hp => (List.pairwise_append.1 h2).2.2 p hp e (by simp)
    have hn := nxt_of hc hel fun p hp => ⟨hPl p hp, hlt p hp⟩
    have hu : UniqP P := uniqP_sub (uniqP_of hc.2.1) hPl
    have hval := hk.valL hm.lay hf hu (fun p hp => (hc.2.2.1 p (hPl p hp)).1) (by simp at h3; omega)
    have hev : EvV m (e.past.length : Nat) e := by
      have := hv e hel
      rw [(hc.2.2.1 e hel).2]; exact this
    obtain ⟨k', a1, a2, -⟩ := apply_step hm.lay hval (by simp at h3; omega) hk hev hn
    have e1 : P ++ e :: O = (P ++ [e]) ++ O := by simp
    rw [e1] at h1 h2 ⊢
    obtain ⟨r, b1, b2⟩ := ih (P ++ [e]) k' h1 h2 (by simp at h3 ⊢; omega) a2
    exact ⟨r, .cons a1 b1, b2⟩
theorem run_part {m : ModS} {l X : List EvS} (hs : SuitE m l) (hX : ∀ e ∈ X, e ∈ l) (hu : Uniq X) (hl : X.length ≤ 1000) : ∃ r, Run m (List.replicate (mrgF m).length mg0) (ordE X) r ∧ KnL m (ordE X) r := by
  have h := run_ok hs (ordE X) [] (List.replicate (mrgF m).length mg0) (fun e he => hX e (ordE_mem.1 (by simpa using he))) (by simpa using srt_lt hu (ordE_perm X) (ordE_srt X)) (by rw [ordE_len]; simpa using hl) (KnL.nil m)
  simpa using h
theorem uniq_sub {l : List EvS} (h : Uniq l) (c : List Int) : Uniq (cutL l c) := by
  have h1 : l.Pairwise fun a b => nm a ≠ nm b := by
    rw [List.pairwise_iff_getElem]
    intro i j hi hj hij h9
    have := h i j _ _ (List.getElem?_eq_getElem hi) (List.getElem?_eq_getElem hj) h9
    omega
  have h2 : (cutL l c).Pairwise fun a b => nm a ≠ nm b := h1.filter _
  intro i j a b ha hb hn
  obtain ⟨i1, rfl⟩ := List.getElem?_eq_some_iff.1 ha
  obtain ⟨j1, rfl⟩ := List.getElem?_eq_some_iff.1 hb
  rcases Nat.lt_trichotomy i j with h9 | h9 | h9
  · exact absurd hn (List.pairwise_iff_getElem.1 h2 i j i1 j1 h9)
  · exact h9
  · exact absurd hn.symm (List.pairwise_iff_getElem.1 h2 j i j1 i1 h9)
theorem cut_len (l : List EvS) (c : List Int) : (cutL l c).length ≤ l.length := List.length_filter_le _ _
end Go.Proofs.YtpgpdmmobblffaaGreat
