/- Part 9 of the ground of this proof: what its texts say of the model, the program and the plain data; conditions: those that are named. -/
import Derived.Test.YtpgpdmmobblffaaGreatP08
namespace Go.Proofs.YtpgpdmmobblffaaGreat
open Go Go.CF
set_option maxRecDepth 20000
theorem out_fx2 {v : Value} {L : List MgE} {o rest rest2 : List Res} (tk1 : Take o (arrR v 44 3 L mgeC) rest) (tk2 : Take rest (bunR (L.map mgeR)) rest2) (hl : L.length ≤ 1000000) (hm : ∀ x ∈ L, x.marks.length ≤ 1000000) {l l' : List AV} {own : List Res} (ht : FX rest2 l l' own) : FX o (.ow v :: l) (mgs (L.map MgE.g) :: l') own := by
  refine .sl tk1 (by omega) (.unb tk2 ?_) ht
  refine FX.rows (o := rest2) (r := mgeR) (f := mgeC) (g := mgC) (φ := MgE.g) L fun x hx o' => ?_
  have := hm x hx
  exact .le (ALe.refl _) (.le (ALe.refl _) (.sl .here (by omega) (FX.refl _) .nil))
theorem addF_len (l : List MkS) (m : MkS) : (addF l m).2.length ≤ l.length + 1 := by
  unfold addF
  split
  · simp
  · split
    · simp
    · simp [insK]; omega
theorem cellF_len {e : EvS} {t : TblS} {u : Option UpS} {g : MgS} : (cellF e t u g).2.marks.length ≤ g.marks.length + 1 := by
  have hf : (fgK e.past g.marks).length ≤ g.marks.length := List.length_filter_le _ _
  match u with
  | none => simp [cellF]
  | some u =>
    simp only [cellF]
    split
    · exact addF_len _ _
    · split
      · simp only; omega
      · split
        · simp only; omega
        · split
          · simp only
            match hg : g.marks with
            | [] => exact addF_len _ _
            | x :: r => simp only [lastF]; repeat' split <;> simp
          · split
            · simp only
              have := addF_len (fgK e.past g.marks) ⟨e.rep, e.num, e.time, if isReg t.kind then u.2.2 else 0⟩
              omega
            · simp
theorem applyF_ok {m : ModS} {l : List MgS} {e : EvS} (h : (applyF m l e).1 = 0) : ValL (mrgF m) l ∧ EvV m (e.past.length : Nat) e ∧ (applyF m l e).2.length = l.length ∧
    (∀ (i : Nat) g, l[i]? = some g → (e.kind = 0 → updF (usF m e) i = none) → (applyF m l e).2[i]? = some g) ∧ ∀ g ∈ (applyF m l e).2, g.marks.length ≤ 1000000 := by
  have hv : ValL (mrgF m) l ∧ EvV m (e.past.length : Nat) e := Classical.byContradiction fun h9 => by
    rw [applyF, if_pos h9] at h
    cases h
  have hmk : ∀ (i : Nat) g, l[i]? = some g → ∃ t, (mrgF m)[i]? = some t ∧ ValG t g := fun i g hi => by
    obtain ⟨t, ht⟩ := get_of (l := mrgF m) (i := i) (by have := hv.1.1; have := (List.getElem?_eq_some_iff.1 hi).1; omega)
    exact ⟨t, ht, hv.1.2 i t g ht hi⟩
  refine ⟨hv.1, hv.2, ?_⟩
  by_cases hk : e.kind = 0
  rotate_left
  · have hF : applyF m l e = (0, l) := by rw [applyF, if_neg (fun h9 => h9 hv), if_pos hk]
    rw [hF]
    refine ⟨rfl, fun i g hg _ => hg, fun g hg => ?_⟩
    obtain ⟨i, hi⟩ := List.getElem?_of_mem hg
    obtain ⟨t, _, h9⟩ := hmk i g hi
    have := h9.1.2.2.2
    omega
  have hF : applyF m l e = gatherF (cellsF (mrgF m) l (usF m e) e) := by rw [applyF, if_neg (fun h9 => h9 hv), if_neg (fun h9 => h9 hk)]
  rw [hF] at h
  have hG : gatherF (cellsF (mrgF m) l (usF m e) e) = (0, (cellsF (mrgF m) l (usF m e) e).map (·.2)) := by
    unfold gatherF at h ⊢
    cases hf : (cellsF (mrgF m) l (usF m e) e).find? fun p => decide (p.1 ≠ 0 ∧ p.1 ≠ 8) with
    | some p =>
      have := List.find?_some hf
      rw [hf] at h
      simp at this
      exact absurd h this.1
    | none =>
      rw [hf] at h
      simp only at h ⊢
      split at h
      · cases h
      · rename_i h9; rw [if_neg h9]
  rw [hF, hG]
  refine ⟨by simp [cellsF_len], fun i g hg hu => ?_, fun g hg => ?_⟩
  · obtain ⟨t, ht, _⟩ := hmk i g hg
    rw [List.getElem?_map, cellsF_at ht hg, hu hk]
    rfl
  · obtain ⟨p, hp, rfl⟩ := List.mem_map.1 hg
    obtain ⟨i, hi⟩ := List.getElem?_of_mem hp
    have hil := (List.getElem?_eq_some_iff.1 hi).1
    rw [cellsF_len] at hil
    obtain ⟨x, hx⟩ := get_of hil
    obtain ⟨t, ht, h9⟩ := hmk i x hx
    rw [cellsF_at ht hx] at hi
    cases hi
    have h1 := cellF_len (e := e) (t := t) (u := updF (usF m e) i) (g := x)
    have := h9.1.2.2.2
    omega
theorem one_at {α : Type} {l : List α} {i : Nat} {x : α} (h : l[i]? = some x) : (l.drop i).take (i + 1 - i) = [x] := by
  have h1 := (List.getElem?_eq_some_iff.1 h)
  rw [show i + 1 - i = 1 by omega, List.drop_eq_getElem_cons h1.1, h1.2]
  rfl
def updB (us : List UpS) : List (List Int × Bool) := us.foldl (fun kvs u => updL kvs [u.2.1] true) []
theorem updB_succ {us : List UpS} {i : Nat} {u : UpS} (h : us[i]? = some u) : updB (us.take (i + 1)) = updL (updB (us.take i)) [u.2.1] true := by
  rw [List.take_add_one, h, updB, List.foldl_append]; rfl
theorem updB_look (us : List UpS) (c : Int) : lookL (updB us) [c] = (updF us c).map fun _ => true := by
  have key : ∀ us : List UpS, lookL (updB us.reverse) [c] = (updF us.reverse c).map fun _ => true := by
    intro us
    induction us with
    | nil => rfl
    | cons u us ih =>
      rw [List.reverse_cons, updB, List.foldl_append, updF, List.reverse_append]
      simp only [List.foldl_cons, List.foldl_nil, List.reverse_cons, List.reverse_nil, List.nil_append, List.cons_append, List.find?_cons]
      rw [lookL_upd]
      by_cases h : u.2.1 = c
      · simp [h]
      · have h2 : ¬ [c] = [u.2.1] := by simpa using fun h9 : c = u.2.1 => h h9.symm
        rw [if_neg h2]
        simp only [h, decide_false]
        exact ih
  have := key us.reverse
  rwa [List.reverse_reverse] at this
set_option maxHeartbeats 4000000 in
theorem apart_p (m : ModS) (l : List MgS) (e : EvS) : CallP Tryz.prog 3 [mdl m, mgs l, evA' e] (bl true) := by
  have haw := awake34_p
  have hfe := few32_c m [e]
  have hf4 := few34_p l
  have hsl : CallP Tryz.prog 13 [mgs l, mgs l] (bl true) := by
    have h := same34_p l l
    rwa [decide_eq_true rfl] at h
  refine CallA.of pg ord3 Tryz.func3 rfl Tryz.ntmps3 Tryz.results3 rfl fun h0 G0 O0 => ?_
  repeat' (first | refine Sp.h ?_ | refine Lk.r rfl ?_ | refine Rf.mk rfl ?_ | (apply Bd.t; (focus (first | assumption | omega | rfl))) | (refine All.mk ?_; intro _) | (apply TkB.r; (focus (repeat (first | exact Take.here | apply Take.there)))) | refine Ch.l ⟨rfl, rfl⟩ ?_ | (apply Fk.r; (focus (repeat (first | exact FillA.nil | (apply FillA.agg; (focus rfl); (focus rfl); (focus (repeat (first | exact SetAs.z | (apply SetAs.c; (focus (repeat (first | assumption | exact SetA.z | apply SetA.s)))))))) | (apply FillA.one; (focus rfl); (focus infer_instance); (focus (repeat (first | assumption | exact SetA.z | apply SetA.s)))))))) | refine Rf.mk ⟨rfl, rfl, rfl⟩ ?_ | fail | (apply Cl.p (haw); (focus repeat' (first | exact Lend.nil | fail))))
  apply Cl.fx [mdl m, evs [e]]
  focus (repeat' (first | exact FX.nil | (apply FX.sl; (focus (repeat (first | exact Take.here | apply Take.there))); (focus exact Nat.le_of_ble_eq_true rfl)) | (apply FX.le; (focus first | exact ALe.refl _ | exact ALe.nil)) | apply FX.agg | apply FX.tup))
  (apply Cl.use (hfe); (focus repeat' (first | exact Lend.nil | apply Lend.keep | fail)); (focus (repeat (first | exact Takes.nil | (apply Takes.cons; (focus (repeat (first | exact Take.here | apply Take.there))))))); (focus rfl))
  rintro _ _ ⟨b, rfl, rfl, hb⟩
  cases b with
  | false =>
    repeat' (first | refine Sp.h ?_ | refine Lk.r rfl ?_ | refine Rf.mk rfl ?_ | (apply Bd.f; (focus (first | assumption | omega | exact Bool.false_ne_true))) | (apply Nm.r; (focus repeat (first | apply LN.cons | exact LN.nil))) | fail | (apply Cl.p (hf4); (focus repeat' (first | fail))))
    exact Fin.p rfl rfl
  | true =>
    obtain ⟨hm, -⟩ := hb rfl
    by_cases hk : FewK l
    rotate_left
    · repeat' (first | refine Sp.h ?_ | refine Lk.r rfl ?_ | refine Rf.mk rfl ?_ | (apply Bd.t; (focus (first | assumption | omega | rfl))) | (apply Bd.f; (focus (first | assumption | omega | exact Bool.false_ne_true))) | (apply Nm.r; (focus repeat (first | apply LN.cons | exact LN.nil))) | fail | (apply Cl.p (hf4); (focus repeat' (first | exact Lend.nil | apply Lend.keep | fail))))
      exact Fin.p rfl rfl
    (repeat' (first | (show CA _ _ (Code.region 6 _ _) _ _; apply Stopped.out) | refine Sp.h ?_ | refine Lk.r rfl ?_ | refine Rf.mk rfl ?_ | (apply Bd.t; (focus (first | assumption | omega | rfl))) | (refine All.mk ?_; intro _) | (apply Fk.r; (focus (repeat (first | exact FillA.nil | (apply FillA.agg; (focus rfl); (focus rfl); (focus (repeat (first | exact SetAs.z | (apply SetAs.c; (focus (repeat (first | assumption | exact SetA.z | apply SetA.s)))))))) | (apply FillA.one; (focus rfl); (focus infer_instance); (focus (repeat (first | assumption | exact SetA.z | apply SetA.s)))))))) | refine Rf.mk ⟨rfl, rfl, rfl⟩ ?_ | fail | (apply Cl.p (hf4); (focus repeat' (first | exact Lend.nil | apply Lend.keep | fail))))); any_goals apply Stopped.mk
    rename_i b3 b5 _ v0
    have hl20 := hk.2
    apply CA.retype (v := v0) (m := ([] : List MgE)) (g := mgeC)
    focus (repeat (first | exact Take.here | apply Take.there))
    focus rfl
    refine CA.bunNil mgeR ?_
    repeat' (first | refine Sp.h ?_ | refine Lk.r rfl ?_ | refine Rf.mk rfl ?_ | (refine Im.mk ?_; intro _) | fail)
    refine CA.loop (fun x : Nat × Value × List MgE => ⟨[(1, mgs l), (3, pm b3), (5, pm b5), (7, .ow x.2.1), (30, mgs l), (31, it (l.length : Nat)), (32, it x.1)], [arrR x.2.1 44 3 x.2.2 mgeC, bunR (x.2.2.map mgeR), blkR b3 30 (modC m), blkR b5 37 (evC e)]⟩)
      (fun x => x.1 ≤ l.length ∧ x.2.2.map MgE.g = l.take x.1) (fun x => l.length - x.1) (0, v0, []) ⟨by (repeat (first | exact trivial | refine ⟨rfl, ?_⟩)), by (repeat (first | exact Subl.nil | refine Subl.cons (by (repeat (first | exact Take.here | apply Take.there))) ?_))⟩ ⟨Nat.zero_le _, by simp⟩ ?_
    rintro ⟨i, w, D⟩ ⟨hi, hD⟩
    simp only at hi hD
    simp only
    by_cases hin : i < l.length
    · obtain ⟨g, hg⟩ := get_of hin
      have h30 := hk.1 g (List.mem_of_getElem? hg)
      have hcl := cloneK_o g.marks (by omega)
      have hDl : D.length = i := by have := congrArg List.length hD; simp at this; omega
      repeat' (first | refine Sp.h ?_ | refine Lk.r rfl ?_ | refine Rf.mk rfl ?_ | (apply Bd.t; (focus (first | assumption | omega | rfl))) | (refine All.mk ?_; intro _) | (apply TkB.r; (focus (repeat (first | exact Take.here | apply Take.there)))) | (apply Ix.q; (focus exact rfl); (focus assumption)) | refine Ch.l ⟨rfl, rfl⟩ ?_ | (apply SetAsk.r; (focus (repeat (first | exact SetAs.z | (apply SetAs.c; (focus (repeat (first | assumption | exact SetA.z | apply SetA.s)))))))) | (apply Nm.r; (focus repeat (first | apply LN.cons | exact LN.nil))) | fail)
      (refine Cl.use (hcl) (by repeat' (first | exact Lend.nil | apply Lend.keep | fail)) .nil rfl ?_; rintro _ _ ⟨_, rfl, rfl⟩)
      rename_i w2
      have inv : Inv mgeC [bl g.put, bl g.drop, .ow w2] ⟨g.put, g.drop, w2, g.marks⟩ := ⟨rfl⟩
      (repeat' (first | (show CA _ _ (Code.region 11 _ _) _ _; apply Stopped.out) | refine Sp.h ?_ | refine Lk.r rfl ?_ | refine Rf.mk rfl ?_ | (apply Om.mk; (focus first | omega | (simp <;> omega))) | (refine All.mk ?_; intro _) | (apply TkA.r; (focus (repeat (first | exact Take.here | apply Take.there)))) | (apply TkB.r; (focus (repeat (first | exact Take.here | apply Take.there)))) | refine Ce.r ?_ | refine Ch.l ⟨rfl, rfl⟩ ?_ | (apply SetAk.r; (focus (repeat (first | assumption | exact SetA.z | apply SetA.s)))) | (apply Fk.r; (focus (repeat (first | exact FillA.nil | (apply FillA.agg; (focus rfl); (focus rfl); (focus (repeat (first | exact SetAs.z | (apply SetAs.c; (focus (repeat (first | assumption | exact SetA.z | apply SetA.s)))))))) | (apply FillA.one; (focus rfl); (focus infer_instance); (focus (repeat (first | assumption | exact SetA.z | apply SetA.s)))))))) | refine Rf.mk ⟨rfl, rfl⟩ ?_ | refine Rf.mk ⟨rfl, rfl, rfl⟩ ?_ | (apply Mp.lit; (focus repeat (first | exact MpL.nil | (apply MpL.cons; (focus rfl)) | (apply MpL.inv; (focus repeat (first | apply LN.cons | exact LN.nil)); (focus infer_instance))))) | fail)); any_goals apply Stopped.mk
      apply CA.bunPush (g := mgeR) (x := (MgE.mk g.put g.drop w2 g.marks))
      focus (repeat (first | exact Take.here | apply Take.there))
      focus (repeat (first | exact Take.here | apply Take.there))
      repeat' (first | refine Sp.h ?_ | refine Lk.r rfl ?_ | refine Rf.mk rfl ?_ | (apply Ov.n; (focus first | omega | (simp <;> omega))) | fail)
      exact PA.lp (i + 1, _, D ++ [(MgE.mk g.put g.drop w2 g.marks)]) ⟨by (repeat (first | exact trivial | refine ⟨rfl, ?_⟩)), by (repeat (first | exact Subl.nil | refine Subl.cons (by (repeat (first | exact Take.here | apply Take.there))) ?_))⟩ ⟨⟨hin, by simp only; rw [List.map_append, hD, List.take_add_one, hg]; rfl⟩, by simp only; omega⟩
    have hie : i = l.length := by omega
    subst hie
    rw [List.take_length] at hD
    have hDm : ∀ x ∈ D, x.marks.length ≤ 1000000 := fun x hx => by
      have := hk.1 x.g (by rw [← hD]; exact List.mem_map_of_mem hx)
      have h9 : x.marks.length ≤ 30 := this
      omega
    have hDn : D.length ≤ 1000000 := by have := congrArg List.length hD; rw [List.length_map] at this; omega
    (repeat' (first | (show CA _ _ (Code.region 12 _ _) _ _; apply Stopped.out) | refine Sp.h ?_ | refine Lk.r rfl ?_ | refine Rf.mk rfl ?_ | (apply Bd.f; (focus (first | assumption | omega | exact Bool.false_ne_true))) | fail)); any_goals apply Stopped.mk
    apply CA.freezeX 7 (b := mgs (D.map MgE.g))
    focus rfl
    focus exact out_fx2 (by (repeat (first | exact Take.here | apply Take.there))) (by (repeat (first | exact Take.here | apply Take.there))) hDn hDm .nil
    rw [hD]
    have hap := apply_a m l e hm
    repeat' (first | refine Sp.h ?_ | refine Lk.r rfl ?_ | refine Rf.mk rfl ?_ | (apply TkB.r; (focus (repeat (first | exact Take.here | apply Take.there)))) | refine Ch.l ⟨rfl, rfl⟩ ?_ | fail)
    (apply Cl.use (hap); (focus repeat' (first | exact Lend.nil | apply Lend.keep | fail)); (focus (repeat (first | exact Takes.nil | (apply Takes.cons; (focus (repeat (first | exact Take.here | apply Take.there))))))); (focus rfl))
    rintro _ _ (⟨v, L, h0, rfl, rfl, hL⟩ | ⟨h0, rfl, rfl⟩)
    rotate_left
    · repeat' (first | refine Sp.h ?_ | refine Lk.r rfl ?_ | refine Rf.mk rfl ?_ | (apply Bd.t; (focus (first | assumption | omega | rfl))) | (apply Bd.f; (focus (first | assumption | omega | exact Bool.false_ne_true))) | (apply Nm.r; (focus repeat (first | apply LN.cons | exact LN.nil))) | fail | (apply Cl.p (hsl); (focus repeat' (first | exact Lend.nil | apply Lend.keep | fail))))
      exact Fin.p rfl (vb rfl)
    obtain ⟨q1, q2, q3, q4, q5⟩ := applyF_ok h0
    rw [← hL] at q3 q4 q5
    rw [List.length_map] at q3
    repeat' (first | refine Sp.h ?_ | refine Lk.r rfl ?_ | refine Rf.mk rfl ?_ | (apply Bd.t; (focus (first | assumption | omega | rfl))) | (refine Im.mk ?_; intro _) | (apply TkA.r; (focus (repeat (first | exact Take.here | apply Take.there)))) | fail | (apply Cl.p (hsl); (focus repeat' (first | exact Lend.nil | apply Lend.keep | fail))))
    refine MkM.r bl ?_
    (repeat' (first | (show CA _ _ (Code.cond (Operand.tmp 75) _ _) _ _; apply Stopped.out) | refine Sp.h ?_ | refine Lk.r rfl ?_ | refine Rf.mk rfl ?_ | (refine All.mk ?_; intro _) | (apply TkB.r; (focus (repeat (first | exact Take.here | apply Take.there)))) | fail)); any_goals apply Stopped.mk
    rename_i bu
    refine CA.cut (fun us : List UpS => ⟨[(1, mgs l), (7, mgs l), (10, .ow v), (12, .val (.map (some bu)))], [arrR v 44 3 L mgeC, bunR (L.map mgeR), mapR Tryz.prog bu 3 (updB us) bl]⟩) (fun us => us = if e.kind = 0 then usF m e else []) ?_ ?_
    · by_cases hk0 : e.kind = 0
      rotate_left
      · repeat' (first | refine Sp.h ?_ | refine Lk.r rfl ?_ | (apply Bd.f; (focus (first | assumption | omega | exact Bool.false_ne_true))) | fail)
        exact PA.lp [] ⟨by (repeat (first | exact trivial | refine ⟨rfl, ?_⟩)), by (repeat (first | exact Subl.nil | refine Subl.cons (by (repeat (first | exact Take.here | apply Take.there))) ?_))⟩ (by rw [if_neg hk0])
      have ha1 : 0 ≤ e.action := by
        have h9 := q2.1.2.2.2.2.2
        simp only [KindOK, Sub0, Btw] at h9
        omega
      have ha2 := q2.2.2 hk0
      obtain ⟨a, ha⟩ := get_of (l := m.acts) (i := e.action.toNat) (by omega)
      obtain ⟨n, hn⟩ : ∃ n : Nat, e.action = n := ⟨e.action.toNat, by omega⟩
      have hus : usF m e = a.eff.updates := by rw [usF, ha]
      rw [hn] at ha
      have ha3 : m.acts[n]? = some a := by simpa using ha
      repeat' (first | refine Sp.h ?_ | refine Lk.r rfl ?_ | refine Rf.mk rfl ?_ | (apply Bd.t; (focus (first | assumption | omega | rfl))) | (refine Im.mk ?_; intro _) | (apply TkB.r; (focus (repeat (first | exact Take.here | apply Take.there)))) | (apply Ix.r; (focus assumption); (focus omega)) | fail)
      refine CA.loop (fun i : Nat => ⟨[(1, mgs l), (7, mgs l), (10, .ow v), (12, .val (.map (some bu))), (83, .sl 3 a.eff.updates updC), (84, it (a.eff.updates.length : Nat)), (85, it i)], [arrR v 44 3 L mgeC, bunR (L.map mgeR), mapR Tryz.prog bu 3 (updB (a.eff.updates.take i)) bl]⟩) (fun i => i ≤ a.eff.updates.length) (fun i => a.eff.updates.length - i) 0 ⟨by (repeat (first | exact trivial | refine ⟨rfl, ?_⟩)), by (repeat (first | exact Subl.nil | refine Subl.cons (by (repeat (first | exact Take.here | apply Take.there))) ?_))⟩ (Nat.zero_le _) ?_
      intro i hi
      by_cases hin : i < a.eff.updates.length
      · obtain ⟨u, hu⟩ := get_of hin
        have hsu := updB_succ hu
        repeat' (first | refine Sp.h ?_ | refine Lk.r rfl ?_ | refine Rf.mk rfl ?_ | (apply Bd.t; (focus (first | assumption | omega | rfl))) | (refine All.mk ?_; intro _) | (apply TkB.r; (focus (repeat (first | exact Take.here | apply Take.there)))) | (apply Ix.q; (focus exact rfl); (focus assumption)) | refine Ch.l ⟨rfl, rfl⟩ ?_ | (apply SetAsk.r; (focus (repeat (first | exact SetAs.z | (apply SetAs.c; (focus (repeat (first | assumption | exact SetA.z | apply SetA.s)))))))) | (apply Nm.r; (focus repeat (first | apply LN.cons | exact LN.nil))) | (apply Kf.mk; (focus kernel_rfl)) | (apply TkM.r; (focus (repeat (first | exact Take.here | apply Take.there)))) | refine UpV.r rfl ?_ | (apply Ov.n; (focus first | omega | (simp <;> omega))) | fail)
        rw [← hsu]
        exact PA.lp (i + 1) ⟨by (repeat (first | exact trivial | refine ⟨rfl, ?_⟩)), by (repeat (first | exact Subl.nil | refine Subl.cons (by (repeat (first | exact Take.here | apply Take.there))) ?_))⟩ ⟨hin, by omega⟩
      · have hie : i = a.eff.updates.length := by omega
        subst hie
        rw [List.take_length]
        repeat' (first | refine Sp.h ?_ | refine Lk.r rfl ?_ | refine Rf.mk rfl ?_ | (apply Bd.f; (focus (first | assumption | omega | exact Bool.false_ne_true))) | fail)
        exact PA.lp a.eff.updates ⟨by (repeat (first | exact trivial | refine ⟨rfl, ?_⟩)), by (repeat (first | exact Subl.nil | refine Subl.cons (by (repeat (first | exact Take.here | apply Take.there))) ?_))⟩ (by rw [if_pos hk0, hus])
    · rintro us hus
      have hq4 : ∀ (i : Nat) g, l[i]? = some g → updF us i = none → (L.map MgE.g)[i]? = some g := fun i g hg hu => q4 i g hg fun hk0 => by
        rw [if_pos hk0] at hus
        rw [← hus]; exact hu
      repeat' (first | refine Sp.h ?_ | refine Lk.r rfl ?_ | refine Rf.mk rfl ?_ | (refine Im.mk ?_; intro _) | fail)
      refine CA.loop (fun x : Nat × List MgE => ⟨[(1, mgs l), (7, mgs l), (10, .ow v), (12, .val (.map (some bu))), (94, it (l.length : Nat)), (95, it x.1)], [arrR v 44 3 x.2 mgeC, bunR (x.2.map mgeR), mapR Tryz.prog bu 3 (updB us) bl]⟩)
        (fun x => x.1 ≤ l.length ∧ x.2.length = l.length ∧ ∀ j, x.1 ≤ j → x.2[j]? = L[j]?) (fun x => l.length - x.1) (0, L) ⟨by (repeat (first | exact trivial | refine ⟨rfl, ?_⟩)), by (repeat (first | exact Subl.nil | refine Subl.cons (by (repeat (first | exact Take.here | apply Take.there))) ?_))⟩ ⟨Nat.zero_le _, q3, fun _ _ => rfl⟩ ?_
      rintro ⟨i, E⟩ ⟨hi, hE, hEj⟩
      simp only at hi hE hEj
      simp only
      by_cases hin : i < l.length
      rotate_left
      · have hie : i = l.length := by omega
        subst hie
        repeat' (first | refine Sp.h ?_ | refine Lk.r rfl ?_ | refine Rf.mk rfl ?_ | (apply Bd.f; (focus (first | assumption | omega | exact Bool.false_ne_true))) | (apply Nm.r; (focus repeat (first | apply LN.cons | exact LN.nil))) | fail | (apply Cl.p (hsl); (focus repeat' (first | exact Lend.nil | apply Lend.keep | fail))))
        exact Fin.p rfl rfl
      obtain ⟨g, hg⟩ := get_of hin
      obtain ⟨x, hx⟩ := get_of (l := E) (i := i) (by omega)
      have hxL : L[i]? = some x := by rw [← hEj i (Nat.le_refl _)]; exact hx
      have hxm : x.marks.length ≤ 1000000 := q5 x.g (List.mem_map_of_mem (List.mem_of_getElem? hxL))
      have hlk := updB_look us i
      (repeat' (first | (show CA _ _ (Code.seq (Code.region 27 _ _) _) _ _; apply Stopped.out) | refine Sp.h ?_ | refine Lk.r rfl ?_ | refine Rf.mk rfl ?_ | (apply Bd.t; (focus (first | assumption | omega | rfl))) | fail)); any_goals apply Stopped.mk
      refine CA.cut (fun _ : Unit => ⟨[(1, mgs l), (7, mgs l), (10, .ow v), (12, .val (.map (some bu))), (15, it i), (94, it (l.length : Nat)), (95, it i)], [arrR v 44 3 E mgeC, bunR (E.map mgeR), mapR Tryz.prog bu 3 (updB us) bl]⟩) (fun _ => True) ?_ ?_
      · cases hup : updF us i with
        | some u =>
          rw [hup] at hlk
          have hlk : lookL (updB us) [(i : Int)] = some true := hlk
          repeat' (first | refine Sp.h ?_ | refine Lk.r rfl ?_ | refine Rf.mk rfl ?_ | (apply Bd.t; (focus (first | assumption | omega | rfl))) | refine OpK.r rfl ?_ | (apply Kf.mk; (focus kernel_rfl)) | (apply TkM.r; (focus (repeat (first | exact Take.here | apply Take.there)))) | (apply LkM.s; (focus first | assumption | rfl)) | (apply CA.draw; (focus rfl); (focus kernel_rfl); (focus kernel_rfl); (focus repeat' (first | apply ON.one | exact ON.done | exact ON.none | apply ON.alt)); (focus rfl)) | fail)
          exact PA.lp () ⟨by (repeat (first | exact trivial | refine ⟨rfl, ?_⟩)), by (repeat (first | exact Subl.nil | refine Subl.cons (by (repeat (first | exact Take.here | apply Take.there))) ?_))⟩ trivial
        | none =>
          rw [hup] at hlk
          have hlk : lookL (updB us) [(i : Int)] = none := hlk
          have hxg : x.g = g := by
            have h9 := hq4 i g hg hup
            rw [List.getElem?_map, hxL] at h9
            simpa using h9
          have hT : (l.drop i).take (i + 1 - i) = [g] := one_at hg
          have hS : (E.drop i).take (i + 1 - i) = [x] := one_at hx
          have hs1 : CallP Tryz.prog 13 [mgs [g], mgs [g]] (bl true) := by
            have h := same34_p [g] [g]
            rwa [decide_eq_true rfl] at h
          repeat' (first | refine Sp.h ?_ | refine Lk.r rfl ?_ | refine Rf.mk rfl ?_ | (apply Bd.f; (focus (first | assumption | omega | exact Bool.false_ne_true))) | refine OpK.r rfl ?_ | (apply TkA.r; (focus (repeat (first | exact Take.here | apply Take.there)))) | (apply Jx.r; (focus exact rfl); (focus first | omega | (simp; done) | (simp; omega))) | (apply Kf.mk; (focus kernel_rfl)) | (apply TkM.r; (focus (repeat (first | exact Take.here | apply Take.there)))) | (apply Zx.b; (focus rfl)) | (apply LkM.n; (focus first | assumption | rfl)) | (apply CA.draw; (focus rfl); (focus kernel_rfl); (focus kernel_rfl); (focus repeat' (first | apply ON.one | exact ON.done | exact ON.none | apply ON.alt)); (focus rfl)) | (apply Ov.n; (focus first | omega | (simp <;> omega))) | fail)
          refine Cl.lendX (as' := [mgs [g], mgs [g]]) hs1 ?_ ?_
          · refine .unb (rs := E.map mgeR) (by simp) (.os (T := 44) (xs := E) (f := mgeC) (by simp) (by omega) ?_ ?_)
            · rw [hS, ← hxg]
              exact .agg (.le (ALe.refl _) (.le (ALe.refl _) (.sl (T := 47) (xs := x.marks) (f := mkC) (List.mem_append_left _ (List.mem_map.2 ⟨x, List.mem_of_getElem? hx, rfl⟩)) (by omega) (LX.refl _) .nil))) .nil
            · rw [hT]
              exact LX.refl _
          repeat' (first | refine Sp.h ?_ | refine Lk.r rfl ?_ | (apply Bd.t; (focus (first | assumption | omega | rfl))) | (apply Bd.f; (focus (first | assumption | omega | exact Bool.false_ne_true))) | refine OpK.r rfl ?_ | fail)
          exact PA.lp () ⟨by (repeat (first | exact trivial | refine ⟨rfl, ?_⟩)), by (repeat (first | exact Subl.nil | refine Subl.cons (by (repeat (first | exact Take.here | apply Take.there))) ?_))⟩ trivial
      · rintro _ _
        (repeat' (first | (show CA _ _ (Code.region 29 _ _) _ _; apply Stopped.out) | refine Sp.h ?_ | fail)); any_goals apply Stopped.mk
        apply CA.bunTake (l := E) (g := mgeR) (i := i) (x := x)
        focus (repeat (first | exact Take.here | apply Take.there))
        focus exact hx
        repeat' (first | refine Sp.h ?_ | refine Lk.r rfl ?_ | refine Rf.mk rfl ?_ | (apply TkA.r; (focus (repeat (first | exact Take.here | apply Take.there)))) | (apply Ix.q; (focus exact rfl); (focus assumption)) | (apply At.r; (focus assumption)) | fail)
        refine CA.loop (fun y : Nat × List MkS => ⟨[(1, mgs l), (7, mgs l), (10, .ow v), (12, .val (.map (some bu))), (15, it i), (94, it (l.length : Nat)), (95, it i), (121, it (x.marks.length : Nat)), (122, it y.1)], [arrR v 44 3 E mgeC, arrR x.w 47 4 y.2 mkC, bunR ((E.eraseIdx i).map mgeR), mapR Tryz.prog bu 3 (updB us) bl]⟩)
          (fun y => y.1 ≤ x.marks.length ∧ y.2.length = x.marks.length) (fun y => x.marks.length - y.1) (0, x.marks) ⟨by (repeat (first | exact trivial | refine ⟨rfl, ?_⟩)), by (repeat (first | exact Subl.nil | refine Subl.cons (by (repeat (first | exact Take.here | apply Take.there))) ?_))⟩ ⟨Nat.zero_le _, rfl⟩ ?_
        rintro ⟨j, mk⟩ ⟨hj, hmk⟩
        simp only at hj hmk
        simp only
        by_cases hjn : j < x.marks.length
        · obtain ⟨y, hy⟩ := get_of (l := mk) (i := j) (by omega)
          repeat' (first | refine Sp.h ?_ | refine Lk.r rfl ?_ | refine Rf.mk rfl ?_ | (apply Bd.t; (focus (first | assumption | omega | rfl))) | (apply TkA.r; (focus (repeat (first | exact Take.here | apply Take.there)))) | (apply Ix.q; (focus exact rfl); (focus assumption)) | (apply At.r; (focus assumption)) | (apply SetAk.r; (focus (repeat (first | assumption | exact SetA.z | apply SetA.s)))) | (apply Up.inv; (focus repeat (first | apply LN.cons | exact LN.nil)); (focus infer_instance)) | (apply Ov.n; (focus first | omega | (simp <;> omega))) | fail)
          exact PA.lp (j + 1, mk.set j ⟨y.rep, y.num, 0, y.val⟩) ⟨by (repeat (first | exact trivial | refine ⟨rfl, ?_⟩)), by (repeat (first | exact Subl.nil | refine Subl.cons (by (repeat (first | exact Take.here | apply Take.there))) ?_))⟩ ⟨⟨hjn, by simp only; rw [List.length_set]; exact hmk⟩, by simp only; omega⟩
        · have hje : j = x.marks.length := by omega
          subst hje
          have hEi : i < E.length := by omega
          have hmap : (E.set i ⟨x.put, x.drop, x.w, mk⟩).map mgeC = E.map mgeC := by
            apply List.ext_getElem?
            intro q
            rw [List.getElem?_map, List.getElem?_map, List.getElem?_set]
            split
            · rename_i hq
              subst hq
              rw [hx]
              simp [mgeC]
            · rfl
          (repeat' (first | (show CA _ _ (Code.region 34 _ _) _ _; apply Stopped.out) | refine Sp.h ?_ | refine Lk.r rfl ?_ | refine Rf.mk rfl ?_ | (apply Bd.f; (focus (first | assumption | omega | exact Bool.false_ne_true))) | fail)); any_goals apply Stopped.mk
          apply CA.bunPut (l := E) (g := mgeR) (i := i) (x := (MgE.mk x.put x.drop x.w mk))
          focus (repeat (first | exact Take.here | apply Take.there))
          focus (repeat (first | exact Take.here | apply Take.there))
          focus exact hEi
          apply CA.retype (v := v) (m := E.set i ⟨x.put, x.drop, x.w, mk⟩) (g := mgeC)
          focus (repeat (first | exact Take.here | apply Take.there))
          focus exact hmap
          repeat' (first | refine Sp.h ?_ | refine Lk.r rfl ?_ | refine Rf.mk rfl ?_ | (apply Ov.n; (focus first | omega | (simp <;> omega))) | fail)
          exact PA.lp (i + 1, E.set i ⟨x.put, x.drop, x.w, mk⟩) ⟨by (repeat (first | exact trivial | refine ⟨rfl, ?_⟩)), by (repeat (first | exact Subl.nil | refine Subl.cons (by (repeat (first | exact Take.here | apply Take.there))) ?_))⟩ ⟨⟨hin, by simp only; rw [List.length_set]; exact hE, fun q hq => by
            simp only at hq ⊢
            rw [List.getElem?_set, if_neg (by omega)]
            exact hEj q (by omega)⟩, by simp only; omega⟩
end Go.Proofs.YtpgpdmmobblffaaGreat
