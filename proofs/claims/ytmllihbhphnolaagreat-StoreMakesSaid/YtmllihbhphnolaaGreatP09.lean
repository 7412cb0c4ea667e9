/- Part 9 of the ground of this proof: what its texts say of the model, the program and the plain data; conditions: those that are named. -/
import Derived.Test.YtmllihbhphnolaaGreatP08
namespace Go.Proofs.YtmllihbhphnolaaGreat
open Go Go.CF
set_option maxRecDepth 20000
instance {v : Value} {sz j r : Nat} : OneA (.oe v sz j r) := ⟨by rintro h G u ⟨b, o, len, cap, _, rfl⟩; rfl⟩
def usF (m : ModS) (e : EvS) : List UpS := match m.acts[e.action.toNat]? with
  | some a => a.eff.updates
  | none => []
noncomputable def cellsF (ts : List TblS) (l : List MgS) (us : List UpS) (e : EvS) : List (Int × MgS) := (List.range l.length).map fun (i : Nat) => match ts[i]?, l[i]? with
  | some t, some g => cellF e t (updF us i) g
  | _, _ => (0, ⟨false, false, []⟩)
theorem cellsF_at {ts : List TblS} {l : List MgS} {us : List UpS} {e : EvS} {i : Nat} {t : TblS} {g : MgS} (ht : ts[i]? = some t) (hg : l[i]? = some g) : (cellsF ts l us e)[i]? = some (cellF e t (updF us i) g) := by
  have hi := (List.getElem?_eq_some_iff.1 hg).1
  rw [cellsF, List.getElem?_map, List.getElem?_range hi, Option.map_some, ht, hg]
theorem cellsF_len {ts : List TblS} {l : List MgS} {us : List UpS} {e : EvS} : (cellsF ts l us e).length = l.length := by simp [cellsF]
noncomputable def gatherF (C : List (Int × MgS)) : Int × List MgS := match C.find? fun p => decide (p.1 ≠ 0 ∧ p.1 ≠ 8) with
  | some p => (p.1, [])
  | none => if ∃ p ∈ C, p.1 = 8 then (8, []) else (0, C.map (·.2))
noncomputable def applyF (m : ModS) (l : List MgS) (e : EvS) : Int × List MgS :=
  if ¬ (ValL (mrgF m) l ∧ EvV m (e.past.length : Nat) e) then (1, [])
  else if e.kind ≠ 0 then (0, l)
  else gatherF (cellsF (mrgF m) l (usF m e) e)
theorem updT_succ {us : List UpS} {i : Nat} {u : UpS} (h : us[i]? = some u) : updT (us.take (i + 1)) = updL (updT (us.take i)) [u.2.1] u := by
  rw [List.take_add_one, h, updT, List.foldl_append]; rfl
theorem gather_bad {C : List (Int × MgS)} {i : Nat} {q : Int × MgS} (hq : C[i]? = some q) (h1 : ∀ p ∈ C.take i, p.1 = 0 ∨ p.1 = 8) (h2 : q.1 ≠ 0) (h3 : q.1 ≠ 8) : gatherF C = (q.1, []) := by
  have hf : C.find? (fun p => decide (p.1 ≠ 0 ∧ p.1 ≠ 8)) = some q := find_at hq (by simp [h2, h3]) fun j y hj hy => by
    have := h1 y (List.mem_of_getElem? (i := j) (by rw [List.getElem?_take, if_pos hj]; exact hy))
    rcases this with h | h <;> simp [h]
  rw [gatherF, hf]
theorem gather_end {C : List (Int × MgS)} (h1 : ∀ p ∈ C, p.1 = 0 ∨ p.1 = 8) : gatherF C = if ∃ p ∈ C, p.1 = 8 then (8, []) else (0, C.map (·.2)) := by
  have hf : C.find? (fun p => decide (p.1 ≠ 0 ∧ p.1 ≠ 8)) = none := List.find?_eq_none.2 fun p hp => by
    rcases h1 p hp with h | h <;> simp [h]
  rw [gatherF, hf]
theorem cellF_none {e : EvS} {t : TblS} {u : UpS} {g : MgS} (h : lookL rulesL [t.kind, u.1] = none) : cellF e t (some u) g = (0, g) := by
  have no : ∀ a b : Int, t.kind = a ∧ u.1 = b → lookL rulesL [a, b] = none := fun a b ⟨h1, h2⟩ => by rw [← h1, ← h2]; exact h
  have n1 : ¬ (t.kind = 2 ∧ u.1 = 0) := fun h9 => absurd (no _ _ h9) (by decide)
  have n2 : ¬ (t.kind = 3 ∧ u.1 = 1) := fun h9 => absurd (no _ _ h9) (by decide)
  have n3 : ¬ (t.kind = 2 ∧ u.1 = 1) := fun h9 => absurd (no _ _ h9) (by decide)
  have n4 : ¬ (t.kind = 3 ∧ u.1 = 0) := fun h9 => absurd (no _ _ h9) (by decide)
  have n5 : ¬ (t.kind = 4 ∧ u.1 = 2) := fun h9 => absurd (no _ _ h9) (by decide)
  have n6 : ¬ (t.kind = 5 ∧ u.1 = 2) := fun h9 => absurd (no _ _ h9) (by decide)
  simp only [cellF, n1, n2, n3, n4, n5, n6, or_self, if_false]
/-- A list, or an error. -/
def ApK (q : Int × List MgS) (r : AV) (own : List Res) : Prop :=
  (∃ v L, q.1 = 0 ∧ r = .tup [.ow v, it 0] ∧ own = outR v L ∧ L.map MgE.g = q.2) ∨ (q.1 ≠ 0 ∧ r = .tup [.val (.slice none 0 0), it q.1] ∧ own = [])
set_option maxHeartbeats 4000000 in
theorem apply_a (m : ModS) (l : List MgS) (e : EvS) (hm : MOK m) : CallA Tryz.prog 131 [mdl m, mgs l, evA' e] [] (ApK (applyF m l e)) := by
  have hva := validM_p m l hm.lay
  have hev := evalid_p m (e.past.length : Nat) e
  by_cases hv : ValL (mrgF m) l ∧ EvV m (e.past.length : Nat) e
  rotate_left
  · have hF : applyF m l e = (1, []) := if_pos hv
    rw [hF]
    refine CallA.of pg ord131 Tryz.func131 rfl Tryz.ntmps131 Tryz.results131 rfl fun h0 G0 O0 => ?_
    by_cases h1 : ValL (mrgF m) l
    · have h2 : ¬ EvV m (e.past.length : Nat) e := fun h => hv ⟨h1, h⟩
      repeat' (first | refine Sp.h ?_ | refine Lk.r rfl ?_ | refine Rf.mk rfl ?_ | (apply Bd.t; (focus (first | assumption | omega | rfl))) | (apply Bd.f; (focus (first | assumption | omega | exact Bool.false_ne_true))) | (refine Im.mk ?_; intro _) | (refine All.mk ?_; intro _) | (apply TkB.r; (focus (repeat (first | exact Take.here | apply Take.there)))) | refine Ch.l ⟨rfl, rfl⟩ ?_ | (apply Nm.r; (focus repeat (first | apply LN.cons | exact LN.nil))) | fail | (apply Cl.p (hva); (focus repeat' (first | exact Lend.nil | apply Lend.keep | fail))) | (apply Cl.p (hev); (focus repeat' (first | exact Lend.nil | apply Lend.keep | fail))))
      exact ⟨_, _, .tup (.same (.same (.nil (by (repeat (first | exact Subl.nil | refine Subl.cons (by (repeat (first | exact Take.here | apply Take.there))) ?_)))))), .inr ⟨by decide, rfl, rfl⟩⟩
    · repeat' (first | refine Sp.h ?_ | refine Lk.r rfl ?_ | refine Rf.mk rfl ?_ | (apply Bd.f; (focus (first | assumption | omega | exact Bool.false_ne_true))) | (refine All.mk ?_; intro _) | (apply TkB.r; (focus (repeat (first | exact Take.here | apply Take.there)))) | refine Ch.l ⟨rfl, rfl⟩ ?_ | (apply Nm.r; (focus repeat (first | apply LN.cons | exact LN.nil))) | fail | (apply Cl.p (hva); (focus repeat' (first | exact Lend.nil | apply Lend.keep | fail))) | (apply Cl.p (hev); (focus repeat' (first | exact Lend.nil | apply Lend.keep | fail))))
      exact ⟨_, _, .tup (.same (.same (.nil (by (repeat (first | exact Subl.nil | refine Subl.cons (by (repeat (first | exact Take.here | apply Take.there))) ?_)))))), .inr ⟨by decide, rfl, rfl⟩⟩
  obtain ⟨h1, h2⟩ := hv
  have hl : l.length ≤ 20 := by have := h1.1; have := hm.mrg; omega
  have hg : ∀ (i : Nat) g, l[i]? = some g → ∃ t, (mrgF m)[i]? = some t ∧ ValG t g := fun i g hi => by
    obtain ⟨t, ht⟩ := get_of (l := mrgF m) (i := i) (by have := h1.1; have := (List.getElem?_eq_some_iff.1 hi).1; omega)
    exact ⟨t, ht, h1.2 i t g ht hi⟩
  have hcl := clone34_a l (by omega) (fun g hgm => by
    obtain ⟨i, hi⟩ := List.getElem?_of_mem hgm
    obtain ⟨t, _, hv⟩ := hg i g hi
    have := hv.1.2.2.2
    omega)
  have hce := cells_p m hm.lay
  have hru := rules_a
  by_cases hk : e.kind = 0
  rotate_left
  · have hF : applyF m l e = (0, l) := by rw [applyF, if_neg (fun h => h ⟨h1, h2⟩), if_pos hk]
    rw [hF]
    refine CallA.of pg ord131 Tryz.func131 rfl Tryz.ntmps131 Tryz.results131 rfl fun h0 G0 O0 => ?_
    repeat' (first | refine Sp.h ?_ | refine Lk.r rfl ?_ | refine Rf.mk rfl ?_ | (apply Bd.t; (focus (first | assumption | omega | rfl))) | (refine Im.mk ?_; intro _) | (refine All.mk ?_; intro _) | (apply TkB.r; (focus (repeat (first | exact Take.here | apply Take.there)))) | refine Ch.l ⟨rfl, rfl⟩ ?_ | fail | (apply Cl.p (hva); (focus repeat' (first | exact Lend.nil | apply Lend.keep | fail))) | (apply Cl.p (hev); (focus repeat' (first | exact Lend.nil | apply Lend.keep | fail))))
    (apply Cl.use (hcl); (focus repeat' (first | exact Lend.nil | apply Lend.keep | fail)); (focus (repeat (first | exact Takes.nil | (apply Takes.cons; (focus (repeat (first | exact Take.here | apply Take.there))))))); (focus rfl))
    rintro _ _ ⟨v, L, rfl, hL, rfl⟩
    repeat' (first | refine Sp.h ?_ | refine Lk.r rfl ?_ | refine Rf.mk rfl ?_ | (apply Bd.f; (focus (first | assumption | omega | exact Bool.false_ne_true))) | (apply TkB.r; (focus (repeat (first | exact Take.here | apply Take.there)))) | (apply Nm.r; (focus repeat (first | apply LN.cons | exact LN.nil))) | fail)
    exact ⟨_, _, .tup (.same (.same (.nil (by (repeat (first | exact Subl.nil | refine Subl.cons (by (repeat (first | exact Take.here | apply Take.there))) ?_)))))), .inl ⟨v, L, rfl, rfl, rfl, hL⟩⟩
  have hF : applyF m l e = gatherF (cellsF (mrgF m) l (usF m e) e) := by rw [applyF, if_neg (fun h => h ⟨h1, h2⟩), if_neg (fun h => h hk)]
  rw [hF]
  have ha1 : 0 ≤ e.action := by
    have h9 := h2.1.2.2.2.2.2
    simp only [KindOK, Sub0, Btw] at h9
    omega
  have ha2 := h2.2.2 hk
  obtain ⟨a, ha⟩ := get_of (l := m.acts) (i := e.action.toNat) (by omega)
  obtain ⟨n, hn⟩ : ∃ n : Nat, e.action = n := ⟨e.action.toNat, by omega⟩
  have hus : usF m e = a.eff.updates := by rw [usF, ha]
  rw [hn] at ha
  rw [hus]
  have ha3 : m.acts[n]? = some a := by simpa using ha
  refine CallA.of pg ord131 Tryz.func131 rfl Tryz.ntmps131 Tryz.results131 rfl fun h0 G0 O0 => ?_
  repeat' (first | refine Sp.h ?_ | refine Lk.r rfl ?_ | refine Rf.mk rfl ?_ | (apply Bd.t; (focus (first | assumption | omega | rfl))) | (refine Im.mk ?_; intro _) | (refine All.mk ?_; intro _) | (apply TkB.r; (focus (repeat (first | exact Take.here | apply Take.there)))) | refine Ch.l ⟨rfl, rfl⟩ ?_ | fail | (apply Cl.p (hva); (focus repeat' (first | exact Lend.nil | apply Lend.keep | fail))) | (apply Cl.p (hev); (focus repeat' (first | exact Lend.nil | apply Lend.keep | fail))))
  (apply Cl.use (hcl); (focus repeat' (first | exact Lend.nil | apply Lend.keep | fail)); (focus (repeat (first | exact Takes.nil | (apply Takes.cons; (focus (repeat (first | exact Take.here | apply Take.there))))))); (focus rfl))
  rintro _ _ ⟨v, L0, rfl, hL, rfl⟩
  repeat' (first | refine Sp.h ?_ | refine Lk.r rfl ?_ | refine Rf.mk rfl ?_ | (apply Bd.t; (focus (first | assumption | omega | rfl))) | (apply TkB.r; (focus (repeat (first | exact Take.here | apply Take.there)))) | refine Ch.l ⟨rfl, rfl⟩ ?_ | fail | (apply Cl.p (hce); (focus repeat' (first | exact Lend.nil | apply Lend.keep | fail))))
  (apply Cl.use (hru); (focus repeat' (first | exact Lend.nil | fail)); (focus (repeat (first | exact Takes.nil | (apply Takes.cons; (focus (repeat (first | exact Take.here | apply Take.there))))))); (focus rfl))
  rintro _ _ ⟨br, kvs, rfl, rfl, hlk⟩
  repeat' (first | refine Sp.h ?_ | refine Lk.r rfl ?_ | refine Rf.mk rfl ?_ | fail)
  refine MkM.r (fun u : UpS => AV.agg (updC u)) ?_
  repeat' (first | refine Sp.h ?_ | refine Lk.r rfl ?_ | refine Rf.mk rfl ?_ | (refine Im.mk ?_; intro _) | (refine All.mk ?_; intro _) | (apply TkB.r; (focus (repeat (first | exact Take.here | apply Take.there)))) | (apply Ix.r; (focus assumption); (focus omega)) | fail)
  refine CA.loop (fun i : Nat => ⟨[(5, pm _), (8, .ow v), (9, tbls (mrgF m)), (10, .val (.map (some br))), (11, .val (.map (some _))), (12, bl false), (53, .sl 3 a.eff.updates updC), (54, it (a.eff.updates.length : Nat)), (55, it i)],
      [arrR v 123 3 L0 mgeC, bunR (L0.map mgeR), mapR Tryz.prog br 255 kvs fnV, mapR Tryz.prog _ 3 (updT (a.eff.updates.take i)) (fun u : UpS => AV.agg (updC u)), blkR _ 37 (evC e)]⟩)
    (fun i => i ≤ a.eff.updates.length) (fun i => a.eff.updates.length - i) 0 ⟨by (repeat (first | exact trivial | refine ⟨rfl, ?_⟩)), by (repeat (first | exact Subl.nil | refine Subl.cons (by (repeat (first | exact Take.here | apply Take.there))) ?_))⟩ (Nat.zero_le _) ?_
  intro i hi
  by_cases hin : i < a.eff.updates.length
  · obtain ⟨u, hu⟩ := get_of hin
    have hsu := updT_succ hu
    repeat' (first | refine Sp.h ?_ | refine Lk.r rfl ?_ | refine Rf.mk rfl ?_ | (apply Bd.t; (focus (first | assumption | omega | rfl))) | (refine All.mk ?_; intro _) | (apply TkB.r; (focus (repeat (first | exact Take.here | apply Take.there)))) | (apply Ix.q; (focus exact rfl); (focus assumption)) | refine Ch.l ⟨rfl, rfl⟩ ?_ | (apply SetAsk.r; (focus (repeat (first | exact SetAs.z | (apply SetAs.c; (focus (repeat (first | assumption | exact SetA.z | apply SetA.s)))))))) | (apply Nm.r; (focus repeat (first | apply LN.cons | exact LN.nil))) | (apply Kf.mk; (focus kernel_rfl)) | (apply TkM.r; (focus (repeat (first | exact Take.here | apply Take.there)))) | refine UpV.r rfl ?_ | (apply Ov.n; (focus first | omega | (simp <;> omega))) | fail)
    rw [← hsu]
    exact PA.lp (i + 1) ⟨by (repeat (first | exact trivial | refine ⟨rfl, ?_⟩)), by (repeat (first | exact Subl.nil | refine Subl.cons (by (repeat (first | exact Take.here | apply Take.there))) ?_))⟩ ⟨hin, by omega⟩
  · have hie : i = a.eff.updates.length := by omega
    subst hie
    rw [List.take_length]
    have hlen : (mrgF m).length = l.length := h1.1
    obtain ⟨C, hC⟩ : ∃ C, C = cellsF (mrgF m) l a.eff.updates e := ⟨_, rfl⟩
    rw [← hC]
    (repeat' (first | (show CA _ _ (Code.region 13 _ _) _ _; apply Stopped.out) | refine Sp.h ?_ | refine Lk.r rfl ?_ | refine Rf.mk rfl ?_ | (apply Bd.f; (focus (first | assumption | omega | exact Bool.false_ne_true))) | fail)); any_goals apply Stopped.mk
    refine CA.sub ⟨[(5, pm _), (8, .ow v), (9, tbls (mrgF m)), (10, .val (.map (some br))), (11, .val (.map (some _))), (12, bl false)],
      [arrR v 123 3 L0 mgeC, bunR (L0.map mgeR), mapR Tryz.prog br 255 kvs fnV, mapR Tryz.prog _ 3 (updT a.eff.updates) (fun u : UpS => AV.agg (updC u)), blkR _ 37 (evC e)]⟩ ⟨by (repeat (first | exact trivial | refine ⟨rfl, ?_⟩)), by (repeat (first | exact Subl.nil | refine Subl.cons (by (repeat (first | exact Take.here | apply Take.there))) ?_))⟩ ?_
    repeat' (first | refine Sp.h ?_ | refine Lk.r rfl ?_ | refine Rf.mk rfl ?_ | (refine Im.mk ?_; intro _) | fail)
    rename_i b5 _ bu _ _
    refine CA.loop (fun x : Nat × List MgE × Bool => ⟨[(5, pm b5), (8, .ow v), (10, .val (.map (some br))), (11, .val (.map (some bu))), (12, bl x.2.2), (64, tbls (mrgF m)), (65, it ((mrgF m).length : Nat)), (66, it x.1)],
        [arrR v 123 3 x.2.1 mgeC, bunR (x.2.1.map mgeR), mapR Tryz.prog br 255 kvs fnV, mapR Tryz.prog bu 3 (updT a.eff.updates) (fun u : UpS => AV.agg (updC u)), blkR b5 37 (evC e)]⟩)
      (fun x => x.1 ≤ l.length ∧ x.2.1.map MgE.g = (C.take x.1).map (·.2) ++ l.drop x.1 ∧ (∀ p ∈ C.take x.1, p.1 = 0 ∨ p.1 = 8) ∧ (x.2.2 = true ↔ ∃ p ∈ C.take x.1, p.1 = 8)) (fun x => l.length - x.1) (0, L0, false) ⟨by (repeat (first | exact trivial | refine ⟨rfl, ?_⟩)), by (repeat (first | exact Subl.nil | refine Subl.cons (by (repeat (first | exact Take.here | apply Take.there))) ?_))⟩ ⟨Nat.zero_le _, by simpa using hL, by simp, by simp⟩ ?_
    rintro ⟨i, D, lg⟩ ⟨g1, g2, g3, g4⟩
    simp only at g1 g2 g3 g4
    simp only
    by_cases hin : i < l.length
    · obtain ⟨g, hgi⟩ := get_of hin
      obtain ⟨t, hti, hvg⟩ := hg i g hgi
      have hq : C[i]? = some (cellF e t (updF a.eff.updates i) g) := by rw [hC]; exact cellsF_at hti hgi
      have htl : (C.take i).length = i := by have := (List.getElem?_eq_some_iff.1 hq).1; simp; omega
      have hDi : (D.map MgE.g)[i]? = some g := by
        rw [g2, List.getElem?_append_right (by simp; omega), List.getElem?_drop, List.length_map, htl]
        simpa using hgi
      obtain ⟨x, hx, hxg⟩ : ∃ x, D[i]? = some x ∧ x.g = g := by
        rw [List.getElem?_map] at hDi
        cases hd : D[i]? with
        | none => rw [hd] at hDi; cases hDi
        | some x => rw [hd] at hDi; exact ⟨x, rfl, by simpa using hDi⟩
      have hDl := (List.getElem?_eq_some_iff.1 hx).1
      have hml : x.marks.length ≤ 1024 := by have := hvg.1.2.2.2; rw [← hxg] at this; exact this
      have hsrt : SrtK x.marks := by have := hvg.srt; rw [← hxg] at this; exact this
      have hreg := register_p t
      have hlu := updT_look a.eff.updates i
      have hbad : ∀ c y, cellF e t (updF a.eff.updates i) g = (c, y) → c ≠ 0 → c ≠ 8 → gatherF C = (c, []) := fun c y h h0 h8 => gather_bad (h ▸ hq) g3 h0 h8
      have hsame : D.set i x = D := by
        apply List.ext_getElem?
        intro j
        rw [List.getElem?_set]
        split
        · rename_i hj; subst hj; first | rw [if_pos hDl, hx] | rw [hx]
        · rfl
      (repeat' (first | (show CA _ _ (Code.block 3 _) _ _; apply Stopped.out) | refine Sp.h ?_ | refine Lk.r rfl ?_ | refine Rf.mk rfl ?_ | (apply Bd.t; (focus (first | assumption | omega | rfl))) | fail)); any_goals apply Stopped.mk
      apply CA.bunTake (l := D) (g := mgeR) (i := i) (x := x)
      focus (repeat (first | exact Take.here | apply Take.there))
      focus exact hx
      refine CA.cut (fun p : List MgE × MgE × Bool => ⟨[(5, pm b5), (8, .ow v), (10, .val (.map (some br))), (11, .val (.map (some bu))), (12, bl p.2.2), (64, tbls (mrgF m)), (65, it ((mrgF m).length : Nat)), (66, it i)],
        [arrR v 123 3 p.1 mgeC, mgeR p.2.1, bunR ((D.eraseIdx i).map mgeR), mapR Tryz.prog br 255 kvs fnV, mapR Tryz.prog bu 3 (updT a.eff.updates) (fun u : UpS => AV.agg (updC u)), blkR b5 37 (evC e)]⟩)
        (fun p => p.1 = D.set i p.2.1 ∧ p.2.1.g = (cellF e t (updF a.eff.updates i) g).2 ∧ ((cellF e t (updF a.eff.updates i) g).1 = 0 ∧ p.2.2 = lg ∨ (cellF e t (updF a.eff.updates i) g).1 = 8 ∧ p.2.2 = true)) ?_ ?_
      · cases hup : updF a.eff.updates i with
        | none =>
          rw [hup] at hlu
          rcases hz : lookL rulesL [t.kind, 0] with _ | f0
          · rw [← hlk] at hz
            repeat' (first | refine Sp.h ?_ | refine Lk.r rfl ?_ | refine Rf.mk rfl ?_ | (apply Bd.f; (focus (first | assumption | omega | exact Bool.false_ne_true))) | (refine All.mk ?_; intro _) | (apply TkB.r; (focus (repeat (first | exact Take.here | apply Take.there)))) | (apply Ix.q; (focus exact rfl); (focus assumption)) | refine Ch.l ⟨rfl, rfl⟩ ?_ | (apply SetAsk.r; (focus (repeat (first | exact SetAs.z | (apply SetAs.c; (focus (repeat (first | assumption | exact SetA.z | apply SetA.s)))))))) | (apply Fk.r; (focus (repeat (first | exact FillA.nil | (apply FillA.agg; (focus rfl); (focus rfl); (focus (repeat (first | exact SetAs.z | (apply SetAs.c; (focus (repeat (first | assumption | exact SetA.z | apply SetA.s)))))))) | (apply FillA.one; (focus rfl); (focus infer_instance); (focus (repeat (first | assumption | exact SetA.z | apply SetA.s)))))))) | (apply Nm.r; (focus repeat (first | apply LN.cons | exact LN.nil))) | (apply Il.r; (focus repeat (first | apply ILit.cons | exact ILit.nil))) | (apply Kf.mk; (focus kernel_rfl)) | (apply TkM.r; (focus (repeat (first | exact Take.here | apply Take.there)))) | (apply Zx.agg; (focus rfl); (focus rfl); (focus repeat (first | apply LN.cons | exact LN.nil))) | apply Zx.one | (apply LkM.n; (focus first | assumption | rfl)) | fail)
            all_goals exact PA.lp (D, x, lg) ⟨by (repeat (first | exact trivial | refine ⟨rfl, ?_⟩)), by (repeat (first | exact Subl.nil | refine Subl.cons (by (repeat (first | exact Take.here | apply Take.there))) ?_))⟩ ⟨hsame.symm, hxg, .inl ⟨rfl, rfl⟩⟩
          · rw [← hlk] at hz
            repeat' (first | refine Sp.h ?_ | refine Lk.r rfl ?_ | refine Rf.mk rfl ?_ | (apply Bd.f; (focus (first | assumption | omega | exact Bool.false_ne_true))) | (refine All.mk ?_; intro _) | (apply TkB.r; (focus (repeat (first | exact Take.here | apply Take.there)))) | (apply Ix.q; (focus exact rfl); (focus assumption)) | refine Ch.l ⟨rfl, rfl⟩ ?_ | (apply SetAsk.r; (focus (repeat (first | exact SetAs.z | (apply SetAs.c; (focus (repeat (first | assumption | exact SetA.z | apply SetA.s)))))))) | (apply Fk.r; (focus (repeat (first | exact FillA.nil | (apply FillA.agg; (focus rfl); (focus rfl); (focus (repeat (first | exact SetAs.z | (apply SetAs.c; (focus (repeat (first | assumption | exact SetA.z | apply SetA.s)))))))) | (apply FillA.one; (focus rfl); (focus infer_instance); (focus (repeat (first | assumption | exact SetA.z | apply SetA.s)))))))) | (apply Nm.r; (focus repeat (first | apply LN.cons | exact LN.nil))) | (apply Il.r; (focus repeat (first | apply ILit.cons | exact ILit.nil))) | (apply Kf.mk; (focus kernel_rfl)) | (apply TkM.r; (focus (repeat (first | exact Take.here | apply Take.there)))) | (apply Zx.agg; (focus rfl); (focus rfl); (focus repeat (first | apply LN.cons | exact LN.nil))) | (apply LkM.s; (focus first | assumption | rfl)) | (apply LkM.n; (focus first | assumption | rfl)) | fail)
            all_goals exact PA.lp (D, x, lg) ⟨by (repeat (first | exact trivial | refine ⟨rfl, ?_⟩)), by (repeat (first | exact Subl.nil | refine Subl.cons (by (repeat (first | exact Take.here | apply Take.there))) ?_))⟩ ⟨hsame.symm, hxg, .inl ⟨rfl, rfl⟩⟩
        | some u =>
          obtain ⟨uk, uc, uv⟩ := u
          rw [hup] at hlu hbad
          rcases rules_cases t.kind uk with hz | ⟨k1, k2, hz⟩ | ⟨k1, k2, hz⟩ | ⟨k1, k2, hz⟩ | ⟨k1, k2, hz⟩ | ⟨k1, k2, hz⟩ | ⟨k1, k2, hz⟩
          · have hcell := cellF_none (e := e) (g := g) (u := (uk, uc, uv)) hz
            rw [← hlk] at hz
            repeat' (first | refine Sp.h ?_ | refine Lk.r rfl ?_ | refine Rf.mk rfl ?_ | (apply Bd.t; (focus (first | assumption | omega | rfl))) | (apply Bd.f; (focus (first | assumption | omega | exact Bool.false_ne_true))) | (refine All.mk ?_; intro _) | (apply TkB.r; (focus (repeat (first | exact Take.here | apply Take.there)))) | (apply Ix.q; (focus exact rfl); (focus assumption)) | refine Ch.l ⟨rfl, rfl⟩ ?_ | (apply SetAsk.r; (focus (repeat (first | exact SetAs.z | (apply SetAs.c; (focus (repeat (first | assumption | exact SetA.z | apply SetA.s)))))))) | (apply Fk.r; (focus (repeat (first | exact FillA.nil | (apply FillA.agg; (focus rfl); (focus rfl); (focus (repeat (first | exact SetAs.z | (apply SetAs.c; (focus (repeat (first | assumption | exact SetA.z | apply SetA.s)))))))) | (apply FillA.one; (focus rfl); (focus infer_instance); (focus (repeat (first | assumption | exact SetA.z | apply SetA.s)))))))) | (apply Nm.r; (focus repeat (first | apply LN.cons | exact LN.nil))) | (apply Il.r; (focus repeat (first | apply ILit.cons | exact ILit.nil))) | (apply Kf.mk; (focus kernel_rfl)) | (apply TkM.r; (focus (repeat (first | exact Take.here | apply Take.there)))) | apply Zx.one | (apply LkM.s; (focus first | assumption | rfl)) | (apply LkM.n; (focus first | assumption | rfl)) | fail)
            all_goals exact PA.lp (D, x, lg) ⟨by (repeat (first | exact trivial | refine ⟨rfl, ?_⟩)), by (repeat (first | exact Subl.nil | refine Subl.cons (by (repeat (first | exact Take.here | apply Take.there))) ?_))⟩ ⟨hsame.symm, by rw [hcell]; exact hxg, .inl ⟨by rw [hcell], rfl⟩⟩
          · have hr : ¬ isReg t.kind := by unfold isReg; omega
            have hcell : cellF e t (some (uk, uc, uv)) g = ((addF x.marks ⟨e.rep, e.num, e.time, 0⟩).1, ⟨x.put, x.drop, (addF x.marks ⟨e.rep, e.num, e.time, 0⟩).2⟩) := by
              rw [← hxg]; simp [cellF, k1, k2, isReg, MgE.g]
            have hcon := add_a v i e ⟨e.rep, e.num, e.time, 0⟩ D x hx (hsrt.mono _) hml
            rw [← hlk] at hz
            repeat' (first | refine Sp.h ?_ | refine Lk.r rfl ?_ | refine Rf.mk rfl ?_ | (apply Bd.t; (focus (first | assumption | omega | rfl))) | (apply Bd.f; (focus (first | assumption | omega | exact Bool.false_ne_true))) | refine OpK.r rfl ?_ | (refine All.mk ?_; intro _) | (apply TkA.r; (focus (repeat (first | exact Take.here | apply Take.there)))) | (apply TkB.r; (focus (repeat (first | exact Take.here | apply Take.there)))) | (apply Ix.q; (focus exact rfl); (focus assumption)) | refine Ch.l ⟨rfl, rfl⟩ ?_ | (apply SetAsk.r; (focus (repeat (first | exact SetAs.z | (apply SetAs.c; (focus (repeat (first | assumption | exact SetA.z | apply SetA.s)))))))) | (apply Fk.r; (focus (repeat (first | exact FillA.nil | (apply FillA.agg; (focus rfl); (focus rfl); (focus (repeat (first | exact SetAs.z | (apply SetAs.c; (focus (repeat (first | assumption | exact SetA.z | apply SetA.s)))))))) | (apply FillA.one; (focus rfl); (focus infer_instance); (focus (repeat (first | assumption | exact SetA.z | apply SetA.s)))))))) | (apply Nm.r; (focus repeat (first | apply LN.cons | exact LN.nil))) | (apply Il.r; (focus repeat (first | apply ILit.cons | exact ILit.nil))) | (apply Kf.mk; (focus kernel_rfl)) | (apply TkM.r; (focus (repeat (first | exact Take.here | apply Take.there)))) | (apply LkM.s; (focus first | assumption | rfl)) | (apply CA.draw; (focus rfl); (focus kernel_rfl); (focus kernel_rfl); (focus repeat' (first | apply ON.one | exact ON.done | exact ON.none | apply ON.alt)); (focus rfl)) | fail | (apply Cl.p (hreg); (focus repeat' (first | exact Lend.nil | apply Lend.keep | fail))))
            (apply Cl.use (hcon); (focus repeat' (first | exact Lend.nil | apply Lend.keep | fail)); (focus (repeat (first | exact Takes.nil | (apply Takes.cons; (focus (repeat (first | exact Take.here | apply Take.there))))))); (focus rfl))
            rintro _ _ ⟨w', rfl, rfl⟩
            repeat' (first | refine Sp.h ?_ | refine Lk.r rfl ?_ | refine Rf.mk rfl ?_ | (refine Bd.mk ?_ ?_ <;> intro _) | (apply Nm.r; (focus repeat (first | apply LN.cons | exact LN.nil))) | fail)
            · exact PA.lp (D.set i ⟨x.put, x.drop, w', (addF x.marks ⟨e.rep, e.num, e.time, 0⟩).2⟩, ⟨x.put, x.drop, w', (addF x.marks ⟨e.rep, e.num, e.time, 0⟩).2⟩, lg) ⟨by (repeat (first | exact trivial | refine ⟨rfl, ?_⟩)), by (repeat (first | exact Subl.nil | refine Subl.cons (by (repeat (first | exact Take.here | apply Take.there))) ?_))⟩ ⟨rfl, by rw [hcell]; rfl, .inl ⟨by rw [hcell]; assumption, rfl⟩⟩
            · exact PA.lp (D.set i ⟨x.put, x.drop, w', (addF x.marks ⟨e.rep, e.num, e.time, 0⟩).2⟩, ⟨x.put, x.drop, w', (addF x.marks ⟨e.rep, e.num, e.time, 0⟩).2⟩, true) ⟨by (repeat (first | exact trivial | refine ⟨rfl, ?_⟩)), by (repeat (first | exact Subl.nil | refine Subl.cons (by (repeat (first | exact Take.here | apply Take.there))) ?_))⟩ ⟨rfl, by rw [hcell]; rfl, .inr ⟨by rw [hcell]; assumption, rfl⟩⟩
            · rw [hbad _ _ hcell (by assumption) (by assumption)]
              exact ⟨_, _, .tup (.same (.same (.nil (by (repeat (first | exact Subl.nil | refine Subl.cons (by (repeat (first | exact Take.here | apply Take.there))) ?_)))))), .inr ⟨by assumption, rfl, rfl⟩⟩
          · have hr : ¬ isReg t.kind := by unfold isReg; omega
            have hcell : cellF e t (some (uk, uc, uv)) g = (0, ⟨false, x.drop, fgK e.past x.marks⟩) := by
              rw [← hxg]; simp [cellF, k1, k2, MgE.g]
            have hcon := drop_a v i e ⟨e.rep, e.num, e.time, 0⟩ D x hx hml
            rw [← hlk] at hz
            repeat' (first | refine Sp.h ?_ | refine Lk.r rfl ?_ | refine Rf.mk rfl ?_ | (apply Bd.t; (focus (first | assumption | omega | rfl))) | (apply Bd.f; (focus (first | assumption | omega | exact Bool.false_ne_true))) | refine OpK.r rfl ?_ | (refine All.mk ?_; intro _) | (apply TkA.r; (focus (repeat (first | exact Take.here | apply Take.there)))) | (apply TkB.r; (focus (repeat (first | exact Take.here | apply Take.there)))) | (apply Ix.q; (focus exact rfl); (focus assumption)) | refine Ch.l ⟨rfl, rfl⟩ ?_ | (apply SetAsk.r; (focus (repeat (first | exact SetAs.z | (apply SetAs.c; (focus (repeat (first | assumption | exact SetA.z | apply SetA.s)))))))) | (apply Fk.r; (focus (repeat (first | exact FillA.nil | (apply FillA.agg; (focus rfl); (focus rfl); (focus (repeat (first | exact SetAs.z | (apply SetAs.c; (focus (repeat (first | assumption | exact SetA.z | apply SetA.s)))))))) | (apply FillA.one; (focus rfl); (focus infer_instance); (focus (repeat (first | assumption | exact SetA.z | apply SetA.s)))))))) | (apply Nm.r; (focus repeat (first | apply LN.cons | exact LN.nil))) | (apply Il.r; (focus repeat (first | apply ILit.cons | exact ILit.nil))) | (apply Kf.mk; (focus kernel_rfl)) | (apply TkM.r; (focus (repeat (first | exact Take.here | apply Take.there)))) | (apply LkM.s; (focus first | assumption | rfl)) | (apply CA.draw; (focus rfl); (focus kernel_rfl); (focus kernel_rfl); (focus repeat' (first | apply ON.one | exact ON.done | exact ON.none | apply ON.alt)); (focus rfl)) | fail | (apply Cl.p (hreg); (focus repeat' (first | exact Lend.nil | apply Lend.keep | fail))))
            (apply Cl.use (hcon); (focus repeat' (first | exact Lend.nil | apply Lend.keep | fail)); (focus (repeat (first | exact Takes.nil | (apply Takes.cons; (focus (repeat (first | exact Take.here | apply Take.there))))))); (focus rfl))
            rintro _ _ ⟨rfl, w', rfl⟩
            repeat' (first | refine Sp.h ?_ | refine Lk.r rfl ?_ | refine Rf.mk rfl ?_ | (apply Bd.t; (focus (first | assumption | omega | rfl))) | fail)
            exact PA.lp (D.set i ⟨false, x.drop, w', fgK e.past x.marks⟩, ⟨false, x.drop, w', fgK e.past x.marks⟩, lg) ⟨by (repeat (first | exact trivial | refine ⟨rfl, ?_⟩)), by (repeat (first | exact Subl.nil | refine Subl.cons (by (repeat (first | exact Take.here | apply Take.there))) ?_))⟩ ⟨rfl, by rw [hcell]; rfl, .inl ⟨by rw [hcell], rfl⟩⟩
          · have hr : ¬ isReg t.kind := by unfold isReg; omega
            have hcell : cellF e t (some (uk, uc, uv)) g = (0, ⟨true, false, fgK e.past x.marks⟩) := by
              rw [← hxg]; simp [cellF, k1, k2, MgE.g]
            have hcon := put_a v i e ⟨e.rep, e.num, e.time, 0⟩ D x hx hml
            rw [← hlk] at hz
            repeat' (first | refine Sp.h ?_ | refine Lk.r rfl ?_ | refine Rf.mk rfl ?_ | (apply Bd.t; (focus (first | assumption | omega | rfl))) | (apply Bd.f; (focus (first | assumption | omega | exact Bool.false_ne_true))) | refine OpK.r rfl ?_ | (refine All.mk ?_; intro _) | (apply TkA.r; (focus (repeat (first | exact Take.here | apply Take.there)))) | (apply TkB.r; (focus (repeat (first | exact Take.here | apply Take.there)))) | (apply Ix.q; (focus exact rfl); (focus assumption)) | refine Ch.l ⟨rfl, rfl⟩ ?_ | (apply SetAsk.r; (focus (repeat (first | exact SetAs.z | (apply SetAs.c; (focus (repeat (first | assumption | exact SetA.z | apply SetA.s)))))))) | (apply Fk.r; (focus (repeat (first | exact FillA.nil | (apply FillA.agg; (focus rfl); (focus rfl); (focus (repeat (first | exact SetAs.z | (apply SetAs.c; (focus (repeat (first | assumption | exact SetA.z | apply SetA.s)))))))) | (apply FillA.one; (focus rfl); (focus infer_instance); (focus (repeat (first | assumption | exact SetA.z | apply SetA.s)))))))) | (apply Nm.r; (focus repeat (first | apply LN.cons | exact LN.nil))) | (apply Il.r; (focus repeat (first | apply ILit.cons | exact ILit.nil))) | (apply Kf.mk; (focus kernel_rfl)) | (apply TkM.r; (focus (repeat (first | exact Take.here | apply Take.there)))) | (apply LkM.s; (focus first | assumption | rfl)) | (apply CA.draw; (focus rfl); (focus kernel_rfl); (focus kernel_rfl); (focus repeat' (first | apply ON.one | exact ON.done | exact ON.none | apply ON.alt)); (focus rfl)) | fail | (apply Cl.p (hreg); (focus repeat' (first | exact Lend.nil | apply Lend.keep | fail))))
            (apply Cl.use (hcon); (focus repeat' (first | exact Lend.nil | apply Lend.keep | fail)); (focus (repeat (first | exact Takes.nil | (apply Takes.cons; (focus (repeat (first | exact Take.here | apply Take.there))))))); (focus rfl))
            rintro _ _ ⟨rfl, w', rfl⟩
            repeat' (first | refine Sp.h ?_ | refine Lk.r rfl ?_ | refine Rf.mk rfl ?_ | (apply Bd.t; (focus (first | assumption | omega | rfl))) | fail)
            exact PA.lp (D.set i ⟨true, false, w', fgK e.past x.marks⟩, ⟨true, false, w', fgK e.past x.marks⟩, lg) ⟨by (repeat (first | exact trivial | refine ⟨rfl, ?_⟩)), by (repeat (first | exact Subl.nil | refine Subl.cons (by (repeat (first | exact Take.here | apply Take.there))) ?_))⟩ ⟨rfl, by rw [hcell]; rfl, .inl ⟨by rw [hcell], rfl⟩⟩
          · have hr : ¬ isReg t.kind := by unfold isReg; omega
            have hcell : cellF e t (some (uk, uc, uv)) g = ((addF x.marks ⟨e.rep, e.num, e.time, 0⟩).1, ⟨x.put, x.drop, (addF x.marks ⟨e.rep, e.num, e.time, 0⟩).2⟩) := by
              rw [← hxg]; simp [cellF, k1, k2, isReg, MgE.g]
            have hcon := add_a v i e ⟨e.rep, e.num, e.time, 0⟩ D x hx (hsrt.mono _) hml
            rw [← hlk] at hz
            repeat' (first | refine Sp.h ?_ | refine Lk.r rfl ?_ | refine Rf.mk rfl ?_ | (apply Bd.t; (focus (first | assumption | omega | rfl))) | (apply Bd.f; (focus (first | assumption | omega | exact Bool.false_ne_true))) | refine OpK.r rfl ?_ | (refine All.mk ?_; intro _) | (apply TkA.r; (focus (repeat (first | exact Take.here | apply Take.there)))) | (apply TkB.r; (focus (repeat (first | exact Take.here | apply Take.there)))) | (apply Ix.q; (focus exact rfl); (focus assumption)) | refine Ch.l ⟨rfl, rfl⟩ ?_ | (apply SetAsk.r; (focus (repeat (first | exact SetAs.z | (apply SetAs.c; (focus (repeat (first | assumption | exact SetA.z | apply SetA.s)))))))) | (apply Fk.r; (focus (repeat (first | exact FillA.nil | (apply FillA.agg; (focus rfl); (focus rfl); (focus (repeat (first | exact SetAs.z | (apply SetAs.c; (focus (repeat (first | assumption | exact SetA.z | apply SetA.s)))))))) | (apply FillA.one; (focus rfl); (focus infer_instance); (focus (repeat (first | assumption | exact SetA.z | apply SetA.s)))))))) | (apply Nm.r; (focus repeat (first | apply LN.cons | exact LN.nil))) | (apply Il.r; (focus repeat (first | apply ILit.cons | exact ILit.nil))) | (apply Kf.mk; (focus kernel_rfl)) | (apply TkM.r; (focus (repeat (first | exact Take.here | apply Take.there)))) | (apply LkM.s; (focus first | assumption | rfl)) | (apply CA.draw; (focus rfl); (focus kernel_rfl); (focus kernel_rfl); (focus repeat' (first | apply ON.one | exact ON.done | exact ON.none | apply ON.alt)); (focus rfl)) | fail | (apply Cl.p (hreg); (focus repeat' (first | exact Lend.nil | apply Lend.keep | fail))))
            (apply Cl.use (hcon); (focus repeat' (first | exact Lend.nil | apply Lend.keep | fail)); (focus (repeat (first | exact Takes.nil | (apply Takes.cons; (focus (repeat (first | exact Take.here | apply Take.there))))))); (focus rfl))
            rintro _ _ ⟨w', rfl, rfl⟩
            repeat' (first | refine Sp.h ?_ | refine Lk.r rfl ?_ | refine Rf.mk rfl ?_ | (refine Bd.mk ?_ ?_ <;> intro _) | (apply Nm.r; (focus repeat (first | apply LN.cons | exact LN.nil))) | fail)
            · exact PA.lp (D.set i ⟨x.put, x.drop, w', (addF x.marks ⟨e.rep, e.num, e.time, 0⟩).2⟩, ⟨x.put, x.drop, w', (addF x.marks ⟨e.rep, e.num, e.time, 0⟩).2⟩, lg) ⟨by (repeat (first | exact trivial | refine ⟨rfl, ?_⟩)), by (repeat (first | exact Subl.nil | refine Subl.cons (by (repeat (first | exact Take.here | apply Take.there))) ?_))⟩ ⟨rfl, by rw [hcell]; rfl, .inl ⟨by rw [hcell]; assumption, rfl⟩⟩
            · exact PA.lp (D.set i ⟨x.put, x.drop, w', (addF x.marks ⟨e.rep, e.num, e.time, 0⟩).2⟩, ⟨x.put, x.drop, w', (addF x.marks ⟨e.rep, e.num, e.time, 0⟩).2⟩, true) ⟨by (repeat (first | exact trivial | refine ⟨rfl, ?_⟩)), by (repeat (first | exact Subl.nil | refine Subl.cons (by (repeat (first | exact Take.here | apply Take.there))) ?_))⟩ ⟨rfl, by rw [hcell]; rfl, .inr ⟨by rw [hcell]; assumption, rfl⟩⟩
            · rw [hbad _ _ hcell (by assumption) (by assumption)]
              exact ⟨_, _, .tup (.same (.same (.nil (by (repeat (first | exact Subl.nil | refine Subl.cons (by (repeat (first | exact Take.here | apply Take.there))) ?_)))))), .inr ⟨by assumption, rfl, rfl⟩⟩
          · have hr : isReg t.kind := by unfold isReg; omega
            have hcell : cellF e t (some (uk, uc, uv)) g = ((lastF x.marks ⟨e.rep, e.num, e.time, uv⟩).1, ⟨x.put, x.drop, (lastF x.marks ⟨e.rep, e.num, e.time, uv⟩).2⟩) := by
              rw [← hxg]; simp [cellF, k1, k2, isReg, MgE.g]
            have hcon := last_a v i e ⟨e.rep, e.num, e.time, uv⟩ D x hx hml
            rw [← hlk] at hz
            repeat' (first | refine Sp.h ?_ | refine Lk.r rfl ?_ | refine Rf.mk rfl ?_ | (apply Bd.t; (focus (first | assumption | omega | rfl))) | refine OpK.r rfl ?_ | (refine All.mk ?_; intro _) | (apply TkA.r; (focus (repeat (first | exact Take.here | apply Take.there)))) | (apply TkB.r; (focus (repeat (first | exact Take.here | apply Take.there)))) | (apply Ix.q; (focus exact rfl); (focus assumption)) | refine Ch.l ⟨rfl, rfl⟩ ?_ | (apply SetAk.r; (focus (repeat (first | assumption | exact SetA.z | apply SetA.s)))) | (apply SetAsk.r; (focus (repeat (first | exact SetAs.z | (apply SetAs.c; (focus (repeat (first | assumption | exact SetA.z | apply SetA.s)))))))) | (apply Fk.r; (focus (repeat (first | exact FillA.nil | (apply FillA.agg; (focus rfl); (focus rfl); (focus (repeat (first | exact SetAs.z | (apply SetAs.c; (focus (repeat (first | assumption | exact SetA.z | apply SetA.s)))))))) | (apply FillA.one; (focus rfl); (focus infer_instance); (focus (repeat (first | assumption | exact SetA.z | apply SetA.s)))))))) | (apply Nm.r; (focus repeat (first | apply LN.cons | exact LN.nil))) | (apply Il.r; (focus repeat (first | apply ILit.cons | exact ILit.nil))) | (apply Kf.mk; (focus kernel_rfl)) | (apply TkM.r; (focus (repeat (first | exact Take.here | apply Take.there)))) | (apply LkM.s; (focus first | assumption | rfl)) | (apply CA.draw; (focus rfl); (focus kernel_rfl); (focus kernel_rfl); (focus repeat' (first | apply ON.one | exact ON.done | exact ON.none | apply ON.alt)); (focus rfl)) | fail | (apply Cl.p (hreg); (focus repeat' (first | exact Lend.nil | apply Lend.keep | fail))))
            (apply Cl.use (hcon); (focus repeat' (first | exact Lend.nil | apply Lend.keep | fail)); (focus (repeat (first | exact Takes.nil | (apply Takes.cons; (focus (repeat (first | exact Take.here | apply Take.there))))))); (focus rfl))
            rintro _ _ ⟨rfl, w', rfl⟩
            repeat' (first | refine Sp.h ?_ | refine Lk.r rfl ?_ | refine Rf.mk rfl ?_ | (refine Bd.mk ?_ ?_ <;> intro _) | (apply Nm.r; (focus repeat (first | apply LN.cons | exact LN.nil))) | fail)
            · exact PA.lp (D.set i ⟨x.put, x.drop, w', (lastF x.marks ⟨e.rep, e.num, e.time, uv⟩).2⟩, ⟨x.put, x.drop, w', (lastF x.marks ⟨e.rep, e.num, e.time, uv⟩).2⟩, lg) ⟨by (repeat (first | exact trivial | refine ⟨rfl, ?_⟩)), by (repeat (first | exact Subl.nil | refine Subl.cons (by (repeat (first | exact Take.here | apply Take.there))) ?_))⟩ ⟨rfl, by rw [hcell]; rfl, .inl ⟨by rw [hcell]; assumption, rfl⟩⟩
            · exact PA.lp (D.set i ⟨x.put, x.drop, w', (lastF x.marks ⟨e.rep, e.num, e.time, uv⟩).2⟩, ⟨x.put, x.drop, w', (lastF x.marks ⟨e.rep, e.num, e.time, uv⟩).2⟩, true) ⟨by (repeat (first | exact trivial | refine ⟨rfl, ?_⟩)), by (repeat (first | exact Subl.nil | refine Subl.cons (by (repeat (first | exact Take.here | apply Take.there))) ?_))⟩ ⟨rfl, by rw [hcell]; rfl, .inr ⟨by rw [hcell]; assumption, rfl⟩⟩
            · rw [hbad _ _ hcell (by assumption) (by assumption)]
              exact ⟨_, _, .tup (.same (.same (.nil (by (repeat (first | exact Subl.nil | refine Subl.cons (by (repeat (first | exact Take.here | apply Take.there))) ?_)))))), .inr ⟨by assumption, rfl, rfl⟩⟩
          · have hr : isReg t.kind := by unfold isReg; omega
            have hcell : cellF e t (some (uk, uc, uv)) g = ((addF (fgK e.past x.marks) ⟨e.rep, e.num, e.time, uv⟩).1, ⟨x.put, x.drop, (addF (fgK e.past x.marks) ⟨e.rep, e.num, e.time, uv⟩).2⟩) := by
              rw [← hxg]; simp [cellF, k1, k2, isReg, MgE.g]
            have hcon := multi_a v i e ⟨e.rep, e.num, e.time, uv⟩ D x hx hml ((hsrt.filter _).mono _)
            rw [← hlk] at hz
            repeat' (first | refine Sp.h ?_ | refine Lk.r rfl ?_ | refine Rf.mk rfl ?_ | (apply Bd.t; (focus (first | assumption | omega | rfl))) | refine OpK.r rfl ?_ | (refine All.mk ?_; intro _) | (apply TkA.r; (focus (repeat (first | exact Take.here | apply Take.there)))) | (apply TkB.r; (focus (repeat (first | exact Take.here | apply Take.there)))) | (apply Ix.q; (focus exact rfl); (focus assumption)) | refine Ch.l ⟨rfl, rfl⟩ ?_ | (apply SetAk.r; (focus (repeat (first | assumption | exact SetA.z | apply SetA.s)))) | (apply SetAsk.r; (focus (repeat (first | exact SetAs.z | (apply SetAs.c; (focus (repeat (first | assumption | exact SetA.z | apply SetA.s)))))))) | (apply Fk.r; (focus (repeat (first | exact FillA.nil | (apply FillA.agg; (focus rfl); (focus rfl); (focus (repeat (first | exact SetAs.z | (apply SetAs.c; (focus (repeat (first | assumption | exact SetA.z | apply SetA.s)))))))) | (apply FillA.one; (focus rfl); (focus infer_instance); (focus (repeat (first | assumption | exact SetA.z | apply SetA.s)))))))) | (apply Nm.r; (focus repeat (first | apply LN.cons | exact LN.nil))) | (apply Il.r; (focus repeat (first | apply ILit.cons | exact ILit.nil))) | (apply Kf.mk; (focus kernel_rfl)) | (apply TkM.r; (focus (repeat (first | exact Take.here | apply Take.there)))) | (apply LkM.s; (focus first | assumption | rfl)) | (apply CA.draw; (focus rfl); (focus kernel_rfl); (focus kernel_rfl); (focus repeat' (first | apply ON.one | exact ON.done | exact ON.none | apply ON.alt)); (focus rfl)) | fail | (apply Cl.p (hreg); (focus repeat' (first | exact Lend.nil | apply Lend.keep | fail))))
            (apply Cl.use (hcon); (focus repeat' (first | exact Lend.nil | apply Lend.keep | fail)); (focus (repeat (first | exact Takes.nil | (apply Takes.cons; (focus (repeat (first | exact Take.here | apply Take.there))))))); (focus rfl))
            rintro _ _ ⟨rfl, w', rfl⟩
            repeat' (first | refine Sp.h ?_ | refine Lk.r rfl ?_ | refine Rf.mk rfl ?_ | (refine Bd.mk ?_ ?_ <;> intro _) | (apply Nm.r; (focus repeat (first | apply LN.cons | exact LN.nil))) | fail)
            · exact PA.lp (D.set i ⟨x.put, x.drop, w', (addF (fgK e.past x.marks) ⟨e.rep, e.num, e.time, uv⟩).2⟩, ⟨x.put, x.drop, w', (addF (fgK e.past x.marks) ⟨e.rep, e.num, e.time, uv⟩).2⟩, lg) ⟨by (repeat (first | exact trivial | refine ⟨rfl, ?_⟩)), by (repeat (first | exact Subl.nil | refine Subl.cons (by (repeat (first | exact Take.here | apply Take.there))) ?_))⟩ ⟨rfl, by rw [hcell]; rfl, .inl ⟨by rw [hcell]; assumption, rfl⟩⟩
            · exact PA.lp (D.set i ⟨x.put, x.drop, w', (addF (fgK e.past x.marks) ⟨e.rep, e.num, e.time, uv⟩).2⟩, ⟨x.put, x.drop, w', (addF (fgK e.past x.marks) ⟨e.rep, e.num, e.time, uv⟩).2⟩, true) ⟨by (repeat (first | exact trivial | refine ⟨rfl, ?_⟩)), by (repeat (first | exact Subl.nil | refine Subl.cons (by (repeat (first | exact Take.here | apply Take.there))) ?_))⟩ ⟨rfl, by rw [hcell]; rfl, .inr ⟨by rw [hcell]; assumption, rfl⟩⟩
            · rw [hbad _ _ hcell (by assumption) (by assumption)]
              exact ⟨_, _, .tup (.same (.same (.nil (by (repeat (first | exact Subl.nil | refine Subl.cons (by (repeat (first | exact Take.here | apply Take.there))) ?_)))))), .inr ⟨by assumption, rfl, rfl⟩⟩
      · rintro ⟨D', x', lg'⟩ ⟨hD', hx', hc⟩
        simp only at hD' hx' hc
        subst hD'
        simp only
        have htk : C.take (i + 1) = C.take i ++ [cellF e t (updF a.eff.updates i) g] := by rw [List.take_add_one, hq]; rfl
        have hdr : l.drop i = g :: l.drop (i + 1) := by
          have h9 := List.drop_eq_getElem_cons hin
          rw [(List.getElem?_eq_some_iff.1 hgi).2] at h9
          exact h9
        have hA : (D.set i x').map MgE.g = (C.take (i + 1)).map (·.2) ++ l.drop (i + 1) := by
          rw [List.map_set, g2, hx', hdr, List.set_append, if_neg (by rw [List.length_map, htl]; omega), List.length_map, htl, Nat.sub_self, List.set_cons_zero, htk]
          simp
        have hB : ∀ p ∈ C.take (i + 1), p.1 = 0 ∨ p.1 = 8 := fun p hp => by
          rw [htk] at hp
          rcases List.mem_append.1 hp with h9 | h9
          · exact g3 p h9
          · rw [List.mem_singleton.1 h9]
            exact hc.imp (·.1) (·.1)
        have hE : lg' = true ↔ ∃ p ∈ C.take (i + 1), p.1 = 8 := by
          rw [htk]
          rcases hc with ⟨c1, rfl⟩ | ⟨c1, rfl⟩
          · rw [g4]
            constructor
            · rintro ⟨p, hp, h8⟩
              exact ⟨p, by simp [hp], h8⟩
            · rintro ⟨p, hp, h8⟩
              rcases List.mem_append.1 hp with h9 | h9
              · exact ⟨p, h9, h8⟩
              · rw [List.mem_singleton.1 h9, c1] at h8; cases h8
          · exact ⟨fun _ => ⟨_, by simp, c1⟩, fun _ => rfl⟩
        (repeat' (first | (show CA _ _ (Code.region 28 _ _) _ _; apply Stopped.out) | refine Sp.h ?_ | fail)); any_goals apply Stopped.mk
        apply CA.bunPut (l := D) (g := mgeR) (i := i) (x := x')
        focus (repeat (first | exact Take.here | apply Take.there))
        focus (repeat (first | exact Take.here | apply Take.there))
        focus exact hDl
        repeat' (first | refine Sp.h ?_ | refine Lk.r rfl ?_ | refine Rf.mk rfl ?_ | (apply Ov.n; (focus first | omega | (simp <;> omega))) | fail)
        exact PA.lp (i + 1, D.set i x', lg') ⟨by (repeat (first | exact trivial | refine ⟨rfl, ?_⟩)), by (repeat (first | exact Subl.nil | refine Subl.cons (by (repeat (first | exact Take.here | apply Take.there))) ?_))⟩ ⟨⟨hin, hA, hB, hE⟩, by simp only; omega⟩
    · have hie : i = l.length := by omega
      subst hie
      have hCl : C.length = l.length := by rw [hC]; exact cellsF_len
      rw [← hCl, List.take_length] at g3 g4
      rw [← hCl, List.take_length, hCl, List.drop_length, List.append_nil] at g2
      cases lg with
      | true =>
        have hG : gatherF C = (8, []) := by rw [gather_end g3, if_pos (g4.1 rfl)]
        rw [hG]
        repeat' (first | refine Sp.h ?_ | refine Lk.r rfl ?_ | refine Rf.mk rfl ?_ | (apply Bd.f; (focus (first | assumption | omega | exact Bool.false_ne_true))) | (apply Nm.r; (focus repeat (first | apply LN.cons | exact LN.nil))) | fail)
        exact ⟨_, _, .tup (.same (.same (.nil (by (repeat (first | exact Subl.nil | refine Subl.cons (by (repeat (first | exact Take.here | apply Take.there))) ?_)))))), .inr ⟨by decide, rfl, rfl⟩⟩
      | false =>
        have hG : gatherF C = (0, C.map (·.2)) := by rw [gather_end g3, if_neg (fun h9 => by have := g4.2 h9; cases this)]
        rw [hG]
        repeat' (first | refine Sp.h ?_ | refine Lk.r rfl ?_ | refine Rf.mk rfl ?_ | (apply Bd.f; (focus (first | assumption | omega | exact Bool.false_ne_true))) | (apply Nm.r; (focus repeat (first | apply LN.cons | exact LN.nil))) | fail)
        exact ⟨_, _, .tup (.same (.same (.nil (by (repeat (first | exact Subl.nil | refine Subl.cons (by (repeat (first | exact Take.here | apply Take.there))) ?_)))))), .inl ⟨v, D, rfl, rfl, rfl, g2⟩⟩
end Go.Proofs.YtmllihbhphnolaaGreat
namespace Go.Proofs.YtmllihbhphnolaaGreat
open Go Go.CF
set_option maxRecDepth 20000
/-- What a store has behind its events; a base, too. -/
structure NowS where
  clock : List Int
  time : Int
  state : List Int
  merged : List MgS
  places : List Int
def cntF (c : List Int) (e : EvS) : List Int := c.set e.rep.toNat (max (c[e.rep.toNat]?.getD 0) e.num)
def dltF (m : ModS) (e : EvS) : List (Int × Int) := match m.acts[e.action.toNat]? with
  | some a => a.eff.delta
  | none => []
def add1 (s : List Int) (p : Int × Int) : List Int := s.set p.1.toNat (IntKind.i64.wrap ((s[p.1.toNat]?.getD 0) + p.2))
def addD (s : List Int) (d : List (Int × Int)) : List Int := d.foldl add1 s
def addE (m : ModS) (s : List Int) (e : EvS) : List Int := if e.kind = 0 then addD s (dltF m e) else s
def insS (l : List Int) : Prop := ∀ x ∈ l, -1000000000 ≤ x ∧ x ≤ 1000000000
noncomputable instance (l : List Int) : Decidable (insS l) := Classical.propDecidable _
def withP (l : List Int) (n : Int) : List Int := if n ∈ l then l else l.filter (· < n) ++ n :: l.filter (n < ·)
def plE (l : List Int) (e : EvS) : List Int := if 0 < e.place then withP l e.place else l
def LateE (evs : List EvS) (e : EvS) : Prop := ∃ x ∈ evs, HasC e.past x.rep x.num ∧ e.time ≤ x.time
noncomputable instance (evs : List EvS) (e : EvS) : Decidable (LateE evs e) := Classical.propDecidable _
/-- A delivery: its error, and what the store has then. -/
noncomputable def deliverF (m : ModS) (evs : List EvS) (w : NowS) (e : EvS) : Int × NowS :=
  if ¬ EvV m (w.clock.length : Nat) e then (1, w)
  else if HasC w.clock e.rep e.num then (6, w)
  else if ¬ Ins e.past w.clock then (9, w)
  else if LateE evs e then (2, w)
  else if e.kind = 0 ∧ ¬ insS (addE m w.state e) then (2, w)
  else if (applyF m w.merged e).1 ≠ 0 then ((applyF m w.merged e).1, w)
  else (0, ⟨cntF w.clock e, max w.time e.time, addE m w.state e, (applyF m w.merged e).2, plE w.places e⟩)
end Go.Proofs.YtmllihbhphnolaaGreat
namespace Go.CF
open Go
/-- What is one thing is the other one, too. -/
structure ALe (a b : AV) : Prop where
  le : ∀ {h : Heap} {G : Nat → Prop} {v : Value}, a.R h G v → b.R h G v
theorem ALe.refl (a : AV) : ALe a a := ⟨fun h => h⟩
theorem ALe.nil {α : Type} {sz : Nat} {f : α → List AV} : ALe (.val (.slice none 0 0)) (.sl sz [] f) := ⟨fun h => by
  have h : _ = _ := h
  subst h
  exact ⟨by simp, .inl ⟨rfl, none, 0, rfl⟩⟩⟩
inductive RLe : List AV → List AV → Prop where
  | nil : RLe [] []
  | cons {a b : AV} {l m : List AV} : ALe a b → RLe l m → RLe (a :: l) (b :: m)
theorem RLe.rep {h : Heap} {G : Nat → Prop} {l m : List AV} (x : RLe l m) : ∀ {vs : List Value}, RepT h G vs l → RepT h G vs m := by
  induction x with
  | nil => exact fun hr => hr
  | cons ha _ ih =>
    intro vs hr
    match vs, hr with
    | v :: vs, ⟨h1, h2⟩ => exact ⟨ha.le h1, ih h2⟩
theorem ALe.sl {α β : Type} {sz : Nat} {l : List α} {f : α → List AV} {ys : List β} {g : β → List AV} (hl : l.length = ys.length) (hr : ∀ (i : Nat) x y, l[i]? = some x → ys[i]? = some y → RLe (f x) (g y)) : ALe (.sl sz l f) (.sl sz ys g) := ⟨fun {h G v} hv => by
  obtain ⟨h1, ⟨h2, p, cap, h3⟩ | ⟨b, o, cap, rows, h2, h3, h4, h5, h6, h7, h8⟩⟩ := hv
  · subst h2
    exact ⟨by rw [← hl]; exact h1, .inl ⟨List.eq_nil_of_length_eq_zero (by rw [← hl]; rfl), p, cap, h3⟩⟩
  · refine ⟨by rw [← hl]; exact h1, .inr ⟨b, o, cap, rows, by rw [← hl]; exact h2, by rw [← hl]; exact h3, by rw [← hl]; exact h4, h5, h6, h7, ⟨by rw [h8.len, hl], fun i r y g1 g2 => ?_, h8.sz⟩⟩⟩
    have hi := (List.getElem?_eq_some_iff.1 g2).1
    have hx : l[i]? = some (l[i]'(by omega)) := List.getElem?_eq_getElem _
    have g3 := h8.row i r _ g1 hx
    exact ⟨(hr i _ y hx g2).rep g3.t, g3.one⟩⟩
theorem CallA.conv {P : Program} {f : FuncId} {asx : List AV} {own : List Res} {a b : AV} (hab : ALe a b) (h : CallA P f asx own fun q o => q = a ∧ o = []) : CallA P f asx own fun q o => q = b ∧ o = [] :=
  ⟨fun hh G Os vs h1 h2 => (h.run hh G Os vs h1 h2).mono fun v' h' ⟨r, o, G', Os', ⟨e1, e2⟩, g1, g2⟩ => by
    subst e1; subst e2
    exact ⟨_, _, _, _, ⟨rfl, rfl⟩, hab.le g1, g2⟩⟩
section
variable {k : List KI} {e : EA} {o : List Res}
end
end Go.CF
namespace Go.CF
open Go
/-- Values, frozen: lists of one's own at any depth. -/
inductive FX : List Res → List AV → List AV → List Res → Prop where
  | nil {o : List Res} : FX o [] [] o
  | le {o own : List Res} {a b : AV} {l l' : List AV} : ALe a b → FX o l l' own → FX o (a :: l) (b :: l') own
  | agg {o o1 own : List Res} {cs cs' l l' : List AV} : FX o cs cs' o1 → FX o1 l l' own → FX o (.agg cs :: l) (.agg cs' :: l') own
  | tup {o o1 own : List Res} {cs cs' l l' : List AV} : FX o cs cs' o1 → FX o1 l l' own → FX o (.tup cs :: l) (.tup cs' :: l') own
  | unb {o rest own rs : List Res} {l l' : List AV} : Take o (bunR rs) rest → FX (rs ++ rest) l l' own → FX o l l' own
  | sl {o rest o1 own : List Res} {l l' : List AV} {α β : Type} {v : Value} {T sz : Nat} {xs : List α} {f : α → List AV} {ys : List β} {g : β → List AV} :
      Take o (arrR v T sz xs f) rest → xs.length ≤ 9223372036854775807 → FX rest (xs.map fun x => .agg (f x)) (ys.map fun y => .agg (g y)) o1 → FX o1 l l' own → FX o (.ow v :: l) (.sl sz ys g :: l') own
theorem FX.len {o own : List Res} {l l' : List AV} (x : FX o l l' own) : l.length = l'.length := by
  induction x with
  | nil => rfl
  | le _ _ ih => simp [ih]
  | agg _ _ _ ih => simp [ih]
  | tup _ _ _ ih => simp [ih]
  | unb _ _ ih => exact ih
  | sl _ _ _ _ _ ih => simp [ih]
theorem RepLL.aggs {h : Heap} {G : Nat → Prop} {α : Type} {f : α → List AV} : ∀ {rows : List (List Value)} {l : List α}, RepLL h G rows (l.map f) → RepT h G (rows.map fun r => .agg r.toArray) (l.map fun x => .agg (f x))
  | [], [], _ => trivial
  | _ :: _, _ :: _, ⟨h1, h2⟩ => ⟨⟨_, rfl, h1⟩, RepLL.aggs h2⟩
  | [], _ :: _, h => h.elim
  | _ :: _, [], h => h.elim
theorem RepLL.unaggs {h : Heap} {G : Nat → Prop} {α : Type} {f : α → List AV} : ∀ {rows : List (List Value)} {l : List α}, RepT h G (rows.map fun r => .agg r.toArray) (l.map fun x => .agg (f x)) → RepLL h G rows (l.map f)
  | [], [], _ => trivial
  | v :: vs, x :: l, ⟨⟨ws, e, h1⟩, h2⟩ => by
    have e' : v = ws := by
      have := congrArg (fun u => match u with | Value.agg a => a.toList | _ => []) e
      simpa using this
    subst e'
    exact ⟨h1, RepLL.unaggs h2⟩
  | [], _ :: _, h => h.elim
  | _ :: _, [], h => h.elim
theorem FX.rep {h0 : Heap} {G0 O0 : Nat → Prop} {h : Heap} {o own : List Res} {l l' : List AV} (x : FX o l l' own) : ∀ {G : Nat → Prop} {Os : List (Nat → Prop)} {vs : List Value}, HpOK h0 G0 O0 o h G Os → RepT h G vs l → ∃ G' Os', HpOK h0 G0 O0 own h G' Os' ∧ RepT h G' vs l' ∧ ∀ b, G b → G' b := by
  induction x with
  | nil => exact fun {G Os vs} c hr => ⟨G, Os, c, hr, fun _ h => h⟩
  | le ha _ ih =>
    intro G Os vs c hr
    match vs, hr with
    | v :: vs, ⟨r1, r2⟩ =>
      obtain ⟨G', Os', h1, h2, h3⟩ := ih c r2
      exact ⟨G', Os', h1, ⟨AV.mono _ h3 (ha.le r1), h2⟩, h3⟩
  | agg _ _ ih1 ih =>
    intro G Os vs c hr
    match vs, hr with
    | v :: vs, ⟨⟨ws, r1, r3⟩, r2⟩ =>
      obtain ⟨G1, Os1, h1, h2, h3⟩ := ih1 c r3.t
      obtain ⟨G2, Os2, h4, h5, h6⟩ := ih h1 (r2.mono h3)
      exact ⟨G2, Os2, h4, ⟨⟨ws, r1, h2.mono h6, r3.one⟩, h5⟩, fun b hb => h6 b (h3 b hb)⟩
  | tup _ _ ih1 ih =>
    intro G Os vs c hr
    match vs, hr with
    | v :: vs, ⟨⟨ws, r1, r3⟩, r2⟩ =>
      obtain ⟨G1, Os1, h1, h2, h3⟩ := ih1 c r3
      obtain ⟨G2, Os2, h4, h5, h6⟩ := ih h1 (r2.mono h3)
      exact ⟨G2, Os2, h4, ⟨⟨ws, r1, h2.mono h6⟩, h5⟩, fun b hb => h6 b (h3 b hb)⟩
  | unb tk _ ih =>
    intro G Os vs c hr
    obtain ⟨O, os', c2⟩ := c.take tk
    obtain ⟨A, _, g2⟩ := c2.unbun
    exact ih g2 hr
  | sl tk hl hf _ ih1 ih =>
    intro G Os vs c hr
    match vs, hr with
    | v :: vs, ⟨⟨r1, _⟩, r2⟩ =>
      subst r1
      obtain ⟨O, os', c2⟩ := c.take tk
      have hrr := c2.own.1
      have hlen : _ = _ := hf.len
      simp only [List.length_map] at hlen
      obtain ⟨g1, ⟨g2, p, cap, g3⟩ | ⟨b, of, cap, rows, g2, g3, g4, g5, g6, g7, g8⟩⟩ := sl_of_own hrr hl
      · obtain ⟨G1, Os1, h1, _, h3⟩ := ih1 (vs := []) c2.freeze (by rw [g2]; trivial)
        obtain ⟨G2, Os2, h4, h5, h6⟩ := ih h1 (r2.mono fun b hb => h3 b (.inl hb))
        refine ⟨G2, Os2, h4, ⟨⟨by omega, .inl ⟨List.eq_nil_of_length_eq_zero (by rw [← hlen, g2]; rfl), p, cap, g3⟩⟩, h5⟩, fun b hb => h6 b (h3 b (.inl hb))⟩
      · obtain ⟨G1, Os1, h1, h2, h3⟩ := ih1 c2.freeze (RepLL.of g8).aggs
        obtain ⟨G2, Os2, h4, h5, h6⟩ := ih h1 (r2.mono fun b hb => h3 b (.inl hb))
        refine ⟨G2, Os2, h4, ⟨⟨by omega, .inr ⟨b, of, cap, rows, by rw [← hlen]; exact g2, by omega, by omega, h6 _ (h3 _ g5), g6, g7, (RepLL.to (RepLL.unaggs h2) g8.sz).mono h6⟩⟩, h5⟩, fun b hb => h6 b (h3 b (.inl hb))⟩
/-- A result that nobody is to change, whatever it is made of. -/
theorem CallA.fx {P : Program} {f : FuncId} {asx : List AV} {own : List Res} {K : AV → List Res → Prop} {a : AV} (h : CallA P f asx own K) (hK : ∀ r o, K r o → FX o [r] [a] []) : CallA P f asx own fun q o => q = a ∧ o = [] :=
  ⟨fun hh G Os vs h1 h2 => (h.run hh G Os vs h1 h2).mono fun v' h' ⟨r, o, G', Os', hk, g1, g2⟩ => by
    obtain ⟨G2, Os2, k1, k2, k3⟩ := (hK r o hk).rep g2 (vs := [v']) ⟨g1, trivial⟩
    exact ⟨a, [], G2, Os2, ⟨rfl, rfl⟩, k2.1, k1⟩⟩
theorem FX.refl {o : List Res} : ∀ l : List AV, FX o l l o
  | [] => .nil
  | a :: l => .le (ALe.refl a) (FX.refl l)
theorem FX.rows {α β : Type} {r : α → Res} {f : α → List AV} {g : β → List AV} {φ : α → β} {o : List Res} : ∀ L : List α, (∀ x ∈ L, ∀ o', FX (r x :: o') (f x) (g (φ x)) o') → FX (L.map r ++ o) (L.map fun x => .agg (f x)) ((L.map φ).map fun y => .agg (g y)) o
  | [], _ => .nil
  | x :: L, hf => .agg (hf x (by simp) _) (FX.rows L fun y hy => hf y (by simp [hy]))
theorem Cl.fx {Γ : Cx} {c : Cls} {f : FuncId} {asx : List AV} (as' : List AV) {o own : List Res} {M : AV → List Res → Prop} (x : FX o asx as' own) (hc : Cl Γ c f as' own M) : Cl Γ c f asx o M := by
  refine ⟨fun {h0 G0 O0 h G Os vs} hp hr => ?_⟩
  obtain ⟨G1, Os1, k1, k2, k3⟩ := x.rep hp hr
  refine (hc.ok k1 k2).mono fun v h' ⟨g1, r, o', G', Os', g2, g3, g4, g5, g6⟩ => ?_
  exact ⟨g1, r, o', G', Os', g2, g3, g4, g5.mono k3, fun b hb => g6 b (k3 b hb)⟩
end Go.CF
namespace Go.Proofs.YtmllihbhphnolaaGreat
open Go Go.CF
set_option maxRecDepth 20000
def mg0 : MgS := ⟨false, false, []⟩
theorem new_p (m : ModS) (hm : LayOK m.sorts m.tables) : CallP Tryz.prog 150 [mdl m] (mgs (List.replicate (mrgF m).length mg0)) := by
  have hc := cells_p m hm
  have hle := mrgF_le hm
  refine CallA.conv (a := .sl 3 (List.replicate (mrgF m).length ()) fun _ => [bl false, bl false, .val (.slice none 0 0)]) (ALe.sl (by simp) fun i x y _ hy => ?_) (CallA.fz (T := 123) (by simp; omega) ?_)
  · have : y = mg0 := (List.mem_replicate.1 (List.mem_of_getElem? hy)).2
    subst this
    exact .cons (ALe.refl _) (.cons (ALe.refl _) (.cons ALe.nil .nil))
  · refine CallA.of pg ord150 Tryz.func150 rfl Tryz.ntmps150 Tryz.results150 rfl fun h0 G0 O0 => ?_
    repeat' (first | refine Sp.h ?_ | refine Lk.r rfl ?_ | refine Rf.mk rfl ?_ | (refine Im.mk ?_; intro _) | (refine All.mk ?_; intro _) | (apply TkB.r; (focus (repeat (first | exact Take.here | apply Take.there)))) | refine Ch.l ⟨rfl, rfl⟩ ?_ | (apply Nm.r; (focus repeat (first | apply LN.cons | exact LN.nil))) | refine Rf.mk ⟨rfl, rfl, rfl⟩ ?_ | (apply Jx.r; (focus exact rfl); (focus first | omega | (simp; done) | (simp; omega))) | fail | (apply Cl.p (hc); (focus repeat' (first | exact Lend.nil | apply Lend.keep | fail))))
    refine CF.MkS.r (fun _ : Unit => [bl false, bl false, .val (.slice none 0 0)]) () rfl ?_
    repeat' (first | refine Sp.h ?_ | refine Lk.r rfl ?_ | (refine All.mk ?_; intro _) | (apply Nm.r; (focus repeat (first | apply LN.cons | exact LN.nil))) | fail)
    exact ⟨_, _, .one (.same (.nil (by (repeat (first | exact Subl.nil | refine Subl.cons (by (repeat (first | exact Take.here | apply Take.there))) ?_))))), _, rfl, rfl⟩
abbrev nl0 : AV := .val (.slice none 0 0)
end Go.Proofs.YtmllihbhphnolaaGreat
namespace Go.Proofs.YtmllihbhphnolaaGreat
open Go Go.CF
set_option maxRecDepth 20000
def tR : TblS := ⟨⟨#[114]⟩, 3, [], 0, 1, 1⟩
def k1 : MkS := ⟨0, 1, 1, 0⟩
def k2 : MkS := ⟨1, 1, 1, 0⟩
def k3 : MkS := ⟨0, 2, 2, 0⟩
def L0 : List MgS := [mg0, mg0]
def L1 : List MgS := [⟨false, false, [k1]⟩, ⟨true, false, []⟩]
def L2 : List MgS := [⟨false, false, [k1]⟩, ⟨true, false, [k2]⟩]
end Go.Proofs.YtmllihbhphnolaaGreat
namespace Go.Proofs.YtmllihbhphnolaaGreat
open Go Go.CF
set_option maxRecDepth 20000
theorem out_fx {v : Value} {L : List MgE} (hl : L.length ≤ 1000000) (hm : ∀ x ∈ L, x.marks.length ≤ 1000000) {l l' : List AV} {own : List Res} (ht : FX [] l l' own) : FX (outR v L) (.ow v :: l) (mgs (L.map MgE.g) :: l') own := by
  refine .sl .here (by omega) (.unb .here ?_) ht
  refine FX.rows (o := []) (r := mgeR) (f := mgeC) (g := mgC) (φ := MgE.g) L fun x hx o' => ?_
  have := hm x hx
  exact .le (ALe.refl _) (.le (ALe.refl _) (.sl .here (by omega) (FX.refl _) .nil))
theorem applyOK_p (m : ModS) (l : List MgS) (e : EvS) (F : List MgS) (hm : MOK m) (hF : applyF m l e = (0, F)) (hl : F.length ≤ 1000000) (hk : ∀ g ∈ F, g.marks.length ≤ 1000000) :
    CallP Tryz.prog 131 [mdl m, mgs l, evA' e] (.tup [mgs F, it 0]) := by
  refine CallA.fx (apply_a m l e hm) ?_
  rw [hF]
  rintro r o (⟨v, L, _, rfl, rfl, hL⟩ | ⟨h, _⟩)
  · have hL : L.map MgE.g = F := hL
    subst hL
    exact .tup (out_fx (by simpa using hl) (fun x hx => hk x.g (List.mem_map_of_mem hx)) (FX.refl _)) .nil
  · exact absurd rfl h
end Go.Proofs.YtmllihbhphnolaaGreat
namespace Go.Proofs.YtmllihbhphnolaaGreat
open Go Go.CF
set_option maxRecDepth 20000
theorem out_fx2 {v : Value} {L : List MgE} {o rest rest2 : List Res} (tk1 : Take o (arrR v 123 3 L mgeC) rest) (tk2 : Take rest (bunR (L.map mgeR)) rest2) (hl : L.length ≤ 1000000) (hm : ∀ x ∈ L, x.marks.length ≤ 1000000) {l l' : List AV} {own : List Res} (ht : FX rest2 l l' own) : FX o (.ow v :: l) (mgs (L.map MgE.g) :: l') own := by
  refine .sl tk1 (by omega) (.unb tk2 ?_) ht
  refine FX.rows (o := rest2) (r := mgeR) (f := mgeC) (g := mgC) (φ := MgE.g) L fun x hx o' => ?_
  have := hm x hx
  exact .le (ALe.refl _) (.le (ALe.refl _) (.sl .here (by omega) (FX.refl _) .nil))
theorem addF_len (l : List MkS) (m : MkS) : (addF l m).2.length ≤ l.length + 1 := by
  unfold addF
  split
  · simp
  · split
    · simp
    · simp [insK]; omega
theorem cellF_len {e : EvS} {t : TblS} {u : Option UpS} {g : MgS} : (cellF e t u g).2.marks.length ≤ g.marks.length + 1 := by
  have hf : (fgK e.past g.marks).length ≤ g.marks.length := List.length_filter_le _ _
  match u with
  | none => simp [cellF]
  | some u =>
    simp only [cellF]
    split
    · exact addF_len _ _
    · split
      · simp only; omega
      · split
        · simp only; omega
        · split
          · simp only
            match hg : g.marks with
            | [] => exact addF_len _ _
            | x :: r => simp only [lastF]; repeat' split <;> simp
          · split
            · simp only
              have := addF_len (fgK e.past g.marks) ⟨e.rep, e.num, e.time, if isReg t.kind then u.2.2 else 0⟩
              omega
            · simp
theorem applyF_ok {m : ModS} {l : List MgS} {e : EvS} (h : (applyF m l e).1 = 0) : ValL (mrgF m) l ∧ EvV m (e.past.length : Nat) e ∧ (applyF m l e).2.length = l.length ∧
    (∀ (i : Nat) g, l[i]? = some g → (e.kind = 0 → updF (usF m e) i = none) → (applyF m l e).2[i]? = some g) ∧ ∀ g ∈ (applyF m l e).2, g.marks.length ≤ 1000000 := by
  have hv : ValL (mrgF m) l ∧ EvV m (e.past.length : Nat) e := Classical.byContradiction fun h9 => by
    rw [applyF, if_pos h9] at h
    cases h
  have hmk : ∀ (i : Nat) g, l[i]? = some g → ∃ t, (mrgF m)[i]? = some t ∧ ValG t g := fun i g hi => by
    obtain ⟨t, ht⟩ := get_of (l := mrgF m) (i := i) (by have := hv.1.1; have := (List.getElem?_eq_some_iff.1 hi).1; omega)
    exact ⟨t, ht, hv.1.2 i t g ht hi⟩
  refine ⟨hv.1, hv.2, ?_⟩
  by_cases hk : e.kind = 0
  rotate_left
  · have hF : applyF m l e = (0, l) := by rw [applyF, if_neg (fun h9 => h9 hv), if_pos hk]
    rw [hF]
    refine ⟨rfl, fun i g hg _ => hg, fun g hg => ?_⟩
    obtain ⟨i, hi⟩ := List.getElem?_of_mem hg
    obtain ⟨t, _, h9⟩ := hmk i g hi
    have := h9.1.2.2.2
    omega
  have hF : applyF m l e = gatherF (cellsF (mrgF m) l (usF m e) e) := by rw [applyF, if_neg (fun h9 => h9 hv), if_neg (fun h9 => h9 hk)]
  rw [hF] at h
  have hG : gatherF (cellsF (mrgF m) l (usF m e) e) = (0, (cellsF (mrgF m) l (usF m e) e).map (·.2)) := by
    unfold gatherF at h ⊢
    cases hf : (cellsF (mrgF m) l (usF m e) e).find? fun p => decide (p.1 ≠ 0 ∧ p.1 ≠ 8) with
    | some p =>
      have := List.find?_some hf
      rw [hf] at h
      simp at this
      exact absurd h this.1
    | none =>
      rw [hf] at h
      simp only at h ⊢
      split at h
      · cases h
      · rename_i h9; rw [if_neg h9]
  rw [hF, hG]
  refine ⟨by simp [cellsF_len], fun i g hg hu => ?_, fun g hg => ?_⟩
  · obtain ⟨t, ht, _⟩ := hmk i g hg
    rw [List.getElem?_map, cellsF_at ht hg, hu hk]
    rfl
  · obtain ⟨p, hp, rfl⟩ := List.mem_map.1 hg
    obtain ⟨i, hi⟩ := List.getElem?_of_mem hp
    have hil := (List.getElem?_eq_some_iff.1 hi).1
    rw [cellsF_len] at hil
    obtain ⟨x, hx⟩ := get_of hil
    obtain ⟨t, ht, h9⟩ := hmk i x hx
    rw [cellsF_at ht hx] at hi
    cases hi
    have h1 := cellF_len (e := e) (t := t) (u := updF (usF m e) i) (g := x)
    have := h9.1.2.2.2
    omega
end Go.Proofs.YtmllihbhphnolaaGreat
namespace Go.CF
open Go
/-- What is one's own, later. -/
structure OX (o o' : List Res) : Prop where
  x : ∀ {h0 : Heap} {G0 O0 : Nat → Prop} {h : Heap} {G : Nat → Prop} {Os : List (Nat → Prop)}, HpOK h0 G0 O0 o h G Os → ∃ G' Os', HpOK h0 G0 O0 o' h G' Os' ∧ ∀ b, G b → G' b
theorem OX.trans {o o1 o2 : List Res} (a : OX o o1) (b : OX o1 o2) : OX o o2 := ⟨fun c => by
  obtain ⟨G1, Os1, c1, g1⟩ := a.x c
  obtain ⟨G2, Os2, c2, g2⟩ := b.x c1
  exact ⟨G2, Os2, c2, fun b hb => g2 b (g1 b hb)⟩⟩
theorem OX.blk {o r1 r2 r3 : List Res} {b : Nat} {T : TypeId} {cs cs' : List AV} (tk : Take o (blkR b T cs) r1) (x : FX o cs cs' r2) (tk2 : Take r2 (blkR b T cs) r3) : OX o (blkR b T cs' :: r3) := ⟨fun {h0 G0 O0 h G Os} c => by
  obtain ⟨O, os', c2⟩ := c.take tk
  obtain ⟨ho, vs, hb, hr⟩ := c2.own.1
  obtain ⟨G', Os', k1, k2, k3⟩ := x.rep c hr.t
  obtain ⟨O2, os2, c3⟩ := k1.take tk2
  obtain ⟨ho2, vs2, hb2, hr2⟩ := c3.own.1
  have hv : vs2 = vs := by
    have := hb2.get.symm.trans hb.get
    simpa using this
  subst hv
  exact ⟨G', O2 :: os2, c3.perm ⟨⟨ho2, vs2, hb2, ⟨k2, hr.one⟩⟩, c3.own.2⟩ (List.Perm.refl _), k3⟩⟩
theorem CallA.own {P : Program} {f : FuncId} {asx : List AV} {own : List Res} {K K' : AV → List Res → Prop} (h : CallA P f asx own K) (hK : ∀ r o, K r o → ∃ o', OX o o' ∧ K' r o') : CallA P f asx own K' :=
  ⟨fun hh G Os vs h1 h2 => (h.run hh G Os vs h1 h2).mono fun v' h' ⟨r, o, G', Os', hk, g1, g2⟩ => by
    obtain ⟨o', ⟨x⟩, hk'⟩ := hK r o hk
    obtain ⟨G2, Os2, k1, k2⟩ := x g2
    exact ⟨r, o', G2, Os2, hk', AV.mono _ k2 g1, k1⟩⟩
theorem CallA.args {P : Program} {f : FuncId} {asx as' : List AV} {own : List Res} {K : AV → List Res → Prop} (w : RLe asx as') (h : CallA P f as' own K) : CallA P f asx own K :=
  ⟨fun hh G Os vs h1 h2 => h.run hh G Os vs (w.rep h1) h2⟩
theorem CallA.fxr {P : Program} {f : FuncId} {asx : List AV} {own : List Res} {K K' : AV → List Res → Prop} (h : CallA P f asx own K) (hK : ∀ r o, K r o → ∃ a o', FX o [r] [a] o' ∧ K' a o') : CallA P f asx own K' :=
  ⟨fun hh G Os vs h1 h2 => (h.run hh G Os vs h1 h2).mono fun v' h' ⟨r, o, G', Os', hk, g1, g2⟩ => by
    obtain ⟨a, o', x, hk'⟩ := hK r o hk
    obtain ⟨G2, Os2, k1, k2, k3⟩ := x.rep g2 (vs := [v']) ⟨g1, trivial⟩
    exact ⟨a, o', G2, Os2, hk', k2.1, k1⟩⟩
theorem CA.own {P : Program} {tt : Nat → Option TI} {en : Nat → Bool} {ok : PgOK P tt en} {T0 : Nat → Ord × (Nat → Cls)} {m0 : Nat} {rs : Array ResultVar} {K : AV → List Res → Prop} {h0 : Heap} {G0 O0 : Nat → Prop} {k : List KI} {e : EA} {o o' : List Res} {y : Code} (x : OX o o')
    (h : CA ⟨P, tt, en, ok, T0, m0, rs, K, h0, G0, O0, ⟨none⟩⟩ k y e o') : CA ⟨P, tt, en, ok, T0, m0, rs, K, h0, G0, O0, ⟨none⟩⟩ k y e o := by
  refine ⟨fun env hh G Os cn => ?_⟩
  obtain ⟨G', Os3, k1, k3⟩ := x.x cn.hp
  exact h.h env hh G' Os3 ⟨k1, fun q c hq => by
    obtain ⟨u, q1, q2⟩ := cn.env q c hq
    exact ⟨u, q1, AV.mono _ k3 q2⟩, FpOK.none rfl⟩
end Go.CF
namespace Go.CF
open Go
theorem FX.s1 {α : Type} {o rest own : List Res} {l l' : List AV} {v : Value} {T sz : Nat} {xs : List α} {f : α → List AV} (tk : Take o (arrR v T sz xs f) rest) (hl : xs.length ≤ 9223372036854775807) (h : FX rest l l' own) : FX o (.ow v :: l) (.sl sz xs f :: l') own := .sl tk hl (FX.refl _) h
theorem FX.k {o own : List Res} {a : AV} {l l' : List AV} (h : FX o l l' own) : FX o (a :: l) (a :: l') own := .le (ALe.refl a) h
theorem FX.kn {α : Type} {o own : List Res} {sz : Nat} {f : α → List AV} {l l' : List AV} (h : FX o l l' own) : FX o (.val (.slice none 0 0) :: l) (.sl sz [] f :: l') own := .le ALe.nil h
theorem Res.eq {a b : Res} (h : a.R = b.R) : a = b := by
  cases a; cases b; cases h; rfl
theorem arrR_eq {α β : Type} {v : Value} {T sz : Nat} {l : List α} {f : α → List AV} {m : List β} {g : β → List AV} (he : l.map f = m.map g) : arrR v T sz l f = arrR v T sz m g := Res.eq (by
  have hl : l.length = m.length := by have := congrArg List.length he; simpa using this
  funext h O G
  refine propext ⟨fun ⟨ho, rows, h1, h2⟩ => ⟨ho, rows, by rw [← hl]; exact h1, h2.map he.symm⟩, fun ⟨ho, rows, h1, h2⟩ => ⟨ho, rows, by rw [hl]; exact h1, h2.map he⟩⟩)
theorem ALe.nilow : ALe (.val (.slice none 0 0)) (.ow (.slice none 0 0)) := ⟨fun h => ⟨h, none, 0, 0, rfl⟩⟩
theorem OX.recell {o rest : List Res} {b : Nat} {T : TypeId} {cs : List AV} (tk : Take o (blkR b T cs) rest) (cs' : List AV) (w : RLe cs cs') : OX o (blkR b T cs' :: rest) := ⟨fun {h0 G0 O0 h G Os} c => by
  obtain ⟨O, os', c2⟩ := c.take tk
  obtain ⟨ho, vs, hb, hr⟩ := c2.own.1
  exact ⟨G, O :: os', c2.perm ⟨⟨ho, vs, hb, ⟨w.rep hr.t, hr.one⟩⟩, c2.own.2⟩ (List.Perm.refl _), fun _ h => h⟩⟩
theorem OX.nil {α : Type} (o : List Res) (T sz : Nat) (f : α → List AV) : OX o (arrR (.slice none 0 0) T sz ([] : List α) f :: o) := ⟨fun {h0 G0 O0 h G Os} c => ⟨G, _, HpOK.nilA (o := o) c T sz f, fun _ h => h⟩⟩
end Go.CF
namespace Go.Proofs.YtmllihbhphnolaaGreat
open Go Go.CF
set_option maxRecDepth 20000
/-! ### Searches in numbers -/
theorem indexI_p {g : FuncId} {p : Int → Bool} (hg : ∀ x, CallP Tryz.prog g [it x] (bl (p x))) (he : en g = true) (l : List Int) :
    CallP Tryz.prog 268 [ints l, .fn g []] (it (idxI p l)) := by
  refine CallA.of pg ord268 Tryz.func268 rfl Tryz.ntmps268 Tryz.results268 rfl fun h0 G0 O0 => ?_
  repeat' (first | refine Sp.h ?_ | refine Lk.r rfl ?_ | refine Rf.mk rfl ?_ | (refine Im.mk ?_; intro _) | fail)
  refine CA.loop (fun i : Nat => ⟨[(0, ints l), (1, .fn g []), (7, it (l.length : Nat)), (8, it i)], []⟩)
    (fun i => i ≤ l.length ∧ ∀ j y, j < i → l[j]? = some y → p y = false) (fun i => l.length - i) 0 ⟨by (repeat (first | exact trivial | refine ⟨rfl, ?_⟩)), by (repeat (first | exact Subl.nil | refine Subl.cons (by (repeat (first | exact Take.here | apply Take.there))) ?_))⟩ ⟨Nat.zero_le _, fun j y h => by omega⟩ ?_
  rintro i ⟨hi, hj⟩
  by_cases hin : i < l.length
  · obtain ⟨e, hx⟩ := get_of hin
    repeat' (first | refine Sp.h ?_ | refine Lk.r rfl ?_ | refine Rf.mk rfl ?_ | (apply Bd.t; (focus (first | assumption | omega | rfl))) | (refine Bd.mk ?_ ?_ <;> intro _) | (apply Ix.q; (focus exact rfl); (focus assumption)) | (apply Nm.r; (focus repeat (first | apply LN.cons | exact LN.nil))) | (apply Rf.mk; (focus assumption)) | (apply Ov.n; (focus first | omega | (simp <;> omega))) | fail | (apply Cl.p (hg e); (focus repeat' (first | exact Lend.nil | apply Lend.keep | fail))))
    · rename_i hp
      exact Fin.p rfl (by rw [idxI, idxN_of hx hp hj, if_pos hin])
    · rename_i hp
      refine PA.lp (i + 1) ⟨by (repeat (first | exact trivial | refine ⟨rfl, ?_⟩)), by (repeat (first | exact Subl.nil | refine Subl.cons (by (repeat (first | exact Take.here | apply Take.there))) ?_))⟩ ⟨⟨hin, fun j y h1 h2 => ?_⟩, by omega⟩
      by_cases hij : j = i
      · subst hij; rw [hx] at h2; cases h2; simpa using hp
      · exact hj j y (by omega) h2
  · repeat' (first | refine Sp.h ?_ | refine Lk.r rfl ?_ | refine Rf.mk rfl ?_ | (apply Bd.f; (focus (first | assumption | omega | exact Bool.false_ne_true))) | (apply Nm.r; (focus repeat (first | apply LN.cons | exact LN.nil))) | fail)
    exact Fin.p rfl (by rw [idxI, idxN_none (fun x hx => by obtain ⟨j, hx⟩ := List.getElem?_of_mem hx; exact hj j x (by have := (List.getElem?_eq_some_iff.1 hx).1; omega) hx), if_neg (by omega)])
theorem containsI_p {g : FuncId} {p : Int → Bool} (hg : ∀ x, CallP Tryz.prog g [it x] (bl (p x))) (he : en g = true) (l : List Int) :
    CallP Tryz.prog 225 [ints l, .fn g []] (bl (decide (idxN p l < l.length))) := by
  refine CallA.of pg ord225 Tryz.func225 rfl Tryz.ntmps225 Tryz.results225 rfl fun h0 G0 O0 => ?_
  repeat' (first | refine Sp.h ?_ | refine Lk.r rfl ?_ | refine Rf.mk rfl ?_ | (apply Nm.r; (focus repeat (first | apply LN.cons | exact LN.nil))) | fail | (apply Cl.p (indexI_p hg he l); (focus repeat' (first | exact Lend.nil | apply Lend.keep | fail))))
  refine Fin.p rfl (vb (decide_eq_decide.2 ?_))
  unfold idxI
  split <;> omega
theorem inside1_p (x : Int) : CallP Tryz.prog 226 [it x] (bl (decide (¬ (-1000000000 ≤ x ∧ x ≤ 1000000000)))) := by
  refine CallA.of pg ord226 Tryz.func226 rfl Tryz.ntmps226 Tryz.results226 rfl fun h0 G0 O0 => ?_
  repeat' (first | refine Sp.h ?_ | refine Lk.r rfl ?_ | refine Rf.mk rfl ?_ | (apply Bd.t; (focus (first | assumption | omega | rfl))) | (apply Bd.f; (focus (first | assumption | omega | exact Bool.false_ne_true))) | (refine Bd.mk ?_ ?_ <;> intro _) | (apply Nm.r; (focus repeat (first | apply LN.cons | exact LN.nil))) | fail)
  all_goals exact Fin.p rfl (vb (by first | exact (decide_eq_true (by omega)).symm | exact (decide_eq_false (by omega)).symm | exact decide_eq_decide.2 (by omega)))
theorem inside35_p (l : List Int) : CallP Tryz.prog 149 [ints l] (bl (decide (insS l))) := by
  refine CallA.of pg ord149 Tryz.func149 rfl Tryz.ntmps149 Tryz.results149 rfl fun h0 G0 O0 => ?_
  repeat' (first | refine Sp.h ?_ | refine Lk.r rfl ?_ | refine Rf.mk rfl ?_ | (apply Nm.r; (focus repeat (first | apply LN.cons | exact LN.nil))) | fail | (apply Cl.p (containsI_p inside1_p rfl l); (focus repeat' (first | exact Lend.nil | apply Lend.keep | fail))))
  refine Fin.p rfl (vb (decide_eq_decide.2 ?_))
  rw [idxN_lt]
  constructor
  · intro h x hx
    exact Classical.byContradiction fun h9 => h ⟨x, hx, decide_eq_true h9⟩
  · rintro h ⟨x, hx, h9⟩
    have := h x hx
    have := of_decide_eq_true h9
    omega
/-! ### Clones -/
theorem cloneM_a (l : List MgS) (hl : l.length ≤ 1000000) (hm : ∀ g ∈ l, g.marks.length ≤ 1000000) :
    CallA Tryz.prog 133 [mgs l] [] fun r own => ∃ v L, r = .ow v ∧ L.map MgE.g = l ∧ own = outR v L := by
  have hc := cloneG_o l (by omega)
  refine CallA.of pg ord133 Tryz.func133 rfl Tryz.ntmps133 Tryz.results133 rfl fun h0 G0 O0 => ?_
  repeat' (first | refine Sp.h ?_ | refine Lk.r rfl ?_ | refine Rf.mk rfl ?_ | fail)
  (refine Cl.use (hc) (by repeat' (first | exact Lend.nil | apply Lend.keep | fail)) .nil rfl ?_; rintro _ _ ⟨_, rfl, rfl⟩)
  repeat' (first | refine Sp.h ?_ | refine Lk.r rfl ?_ | refine Rf.mk rfl ?_ | (apply TkA.r; (focus (repeat (first | exact Take.here | apply Take.there)))) | fail)
  rename_i v
  apply CA.retype (m := l.map ogG) (g := ogC)
  focus (repeat (first | exact Take.here | apply Take.there))
  focus exact ogG_map l
  refine CA.bunNil mgeR ?_
  refine CA.loop (fun x : Nat × List MgE => ⟨[(3, .ow v), (8, it (l.length : Nat)), (9, it x.1)], [arrR v 123 3 (x.2.map ogE ++ (l.drop x.1).map ogG) ogC, bunR (x.2.map mgeR)]⟩)
    (fun x => x.1 ≤ l.length ∧ x.2.map MgE.g = l.take x.1) (fun x => l.length - x.1) (0, []) ⟨by (repeat (first | exact trivial | refine ⟨rfl, ?_⟩)), by (repeat (first | exact Subl.nil | refine Subl.cons (by (repeat (first | exact Take.here | apply Take.there))) ?_))⟩ ⟨Nat.zero_le _, by simp⟩ ?_
  rintro ⟨i, D⟩ ⟨hi, hD⟩
  simp only at hi hD
  simp only
  by_cases hin : i < l.length
  · obtain ⟨g, hg⟩ := get_of hin
    have hgm := hm g (List.mem_of_getElem? hg)
    have hDl : D.length = i := by have := congrArg List.length hD; simp at this; omega
    have hdr : (l.drop i).map ogG = ogG g :: (l.drop (i + 1)).map ogG := by
      have h9 := List.drop_eq_getElem_cons hin
      rw [(List.getElem?_eq_some_iff.1 hg).2] at h9
      rw [h9, List.map_cons]
    have hrow : (D.map ogE ++ (l.drop i).map ogG)[i]? = some (g.put, g.drop, mks g.marks) := by
      rw [hdr, List.getElem?_append_right (by simp; omega)]; simp [hDl, ogG]
    have hcl := cloneK_o g.marks (by omega)
    repeat' (first | refine Sp.h ?_ | refine Lk.r rfl ?_ | refine Rf.mk rfl ?_ | (apply Bd.t; (focus (first | assumption | omega | rfl))) | (apply TkA.r; (focus (repeat (first | exact Take.here | apply Take.there)))) | (apply Ix.q; (focus exact rfl); (focus assumption)) | (apply At.r; (focus assumption)) | fail)
    (refine Cl.use (hcl) (by repeat' (first | exact Lend.nil | apply Lend.keep | fail)) .nil rfl ?_; rintro _ _ ⟨_, rfl, rfl⟩)
    (repeat' (first | (show CA _ _ (Code.region 6 _ _) _ _; apply Stopped.out) | refine Sp.h ?_ | refine Lk.r rfl ?_ | refine Rf.mk rfl ?_ | (apply TkA.r; (focus (repeat (first | exact Take.here | apply Take.there)))) | (apply Ix.q; (focus exact rfl); (focus assumption)) | (apply At.r; (focus assumption)) | (apply SetAk.r; (focus (repeat (first | assumption | exact SetA.z | apply SetA.s)))) | (apply Up.inv; (focus repeat (first | apply LN.cons | exact LN.nil)); (focus infer_instance)) | fail)); any_goals apply Stopped.mk
    rename_i w2
    have hset : (D.map ogE ++ (l.drop i).map ogG).set i (g.put, g.drop, .ow w2) = (D ++ [(MgE.mk g.put g.drop w2 g.marks)]).map ogE ++ (l.drop (i + 1)).map ogG := by
      rw [hdr, List.set_append, if_neg (by simp; omega)]
      simp [hDl, ogE]
    rw [hset]
    apply CA.bunPush (g := mgeR) (x := (MgE.mk g.put g.drop w2 g.marks))
    focus (repeat (first | exact Take.here | apply Take.there))
    focus (repeat (first | exact Take.here | apply Take.there))
    repeat' (first | refine Sp.h ?_ | refine Lk.r rfl ?_ | refine Rf.mk rfl ?_ | (apply Ov.n; (focus first | omega | (simp <;> omega))) | fail)
    exact PA.lp (i + 1, D ++ [(MgE.mk g.put g.drop w2 g.marks)]) ⟨by (repeat (first | exact trivial | refine ⟨rfl, ?_⟩)), by (repeat (first | exact Subl.nil | refine Subl.cons (by (repeat (first | exact Take.here | apply Take.there))) ?_))⟩ ⟨⟨hin, by simp only; rw [List.map_append, hD, List.take_add_one, hg]; rfl⟩, by simp only; omega⟩
  · have hie : i = l.length := by omega
    subst hie
    rw [List.take_length] at hD
    rw [List.drop_length, List.map_nil, List.append_nil]
    (repeat' (first | (show CA _ _ (Code.region 7 _ _) _ _; apply Stopped.out) | refine Sp.h ?_ | refine Lk.r rfl ?_ | refine Rf.mk rfl ?_ | (apply Bd.f; (focus (first | assumption | omega | exact Bool.false_ne_true))) | fail)); any_goals apply Stopped.mk
    apply CA.retype (m := D) (g := mgeC)
    focus (repeat (first | exact Take.here | apply Take.there))
    focus exact ogE_map D
    repeat' (first | refine Sp.h ?_ | refine Lk.r rfl ?_ | refine Rf.mk rfl ?_ | (apply Nm.r; (focus repeat (first | apply LN.cons | exact LN.nil))) | fail)
    exact ⟨_, _, .one (.same (.nil (by (repeat (first | exact Subl.nil | refine Subl.cons (by (repeat (first | exact Take.here | apply Take.there))) ?_))))), _, D, rfl, hD, rfl⟩
theorem cloneM_p (l : List MgS) (hl : l.length ≤ 1000000) (hm : ∀ g ∈ l, g.marks.length ≤ 1000000) : CallP Tryz.prog 133 [mgs l] (mgs l) := by
  refine CallA.fx (cloneM_a l hl hm) ?_
  rintro r o ⟨v, L, rfl, rfl, rfl⟩
  exact out_fx (by simpa using hl) (fun x hx => hm x.g (List.mem_map_of_mem hx)) .nil
theorem cloneV_o (l : List EvS) (hl : l.length ≤ 1000000000) : CallO Tryz.prog 126 [evs l] 37 13 l evC := by
  refine CallA.of pg ord126 Tryz.func126 rfl Tryz.ntmps126 Tryz.results126 rfl fun h0 G0 O0 => ?_
  repeat' (first | refine Sp.h ?_ | refine Lk.r rfl ?_ | refine Rf.mk rfl ?_ | (refine Bd.mk ?_ ?_ <;> intro _) | (apply Om.mk; (focus first | omega | (simp <;> omega))) | (refine Im.mk ?_; intro _) | (refine All.mk ?_; intro _) | (apply TkA.r; (focus (repeat (first | exact Take.here | apply Take.there)))) | refine Ce.l rfl ?_ | (apply Fk.r; (focus (repeat (first | exact FillA.nil | (apply FillA.agg; (focus rfl); (focus rfl); (focus (repeat (first | exact SetAs.z | (apply SetAs.c; (focus (repeat (first | assumption | exact SetA.z | apply SetA.s)))))))) | (apply FillA.one; (focus rfl); (focus infer_instance); (focus (repeat (first | assumption | exact SetA.z | apply SetA.s)))))))) | (apply Nm.r; (focus repeat (first | apply LN.cons | exact LN.nil))) | refine Rf.mk ⟨rfl, rfl⟩ ?_ | refine Rf.mk ⟨rfl, rfl, rfl⟩ ?_ | refine Mp.same ?_ | fail)
  · rename_i b hb hbt
    have hl0 : l = [] := Decidable.byContradiction fun h => by rw [hb h] at hbt; cases hbt
    subst hl0
    exact ⟨_, _, .one (.nils (.nil (by (repeat (first | exact Subl.nil | refine Subl.cons (by (repeat (first | exact Take.here | apply Take.there))) ?_))))), _, rfl, rfl⟩
  · repeat' (first | fail)
    exact ⟨_, _, .one (.same (.nil (by (repeat (first | exact Subl.nil | refine Subl.cons (by (repeat (first | exact Take.here | apply Take.there))) ?_))))), _, rfl, rfl⟩
/-- An event in a list of one's own, with a past of one's own. -/
structure EvE where
  e : EvS
  w : Value
def evQ (e : EvS) (p : AV) : List AV := [iv e.rep, iv e.num, iv e.time, p, iv e.kind, iv e.action, iv e.gk, iv e.gi, iv e.ge, iv e.ga, iv e.to, iv e.place, iv e.serial]
def eveC (x : EvE) : List AV := evQ x.e (.ow x.w)
abbrev eveR (x : EvE) : Res := arrR x.w 3 1 x.e.past intC
def oeC (x : EvS × AV) : List AV := evQ x.1 x.2
instance {e : EvS} {p : AV} : Inv oeC [iv e.rep, iv e.num, iv e.time, p, iv e.kind, iv e.action, iv e.gk, iv e.gi, iv e.ge, iv e.ga, iv e.to, iv e.place, iv e.serial] (e, p) := ⟨rfl⟩
def oeE (x : EvE) : EvS × AV := (x.e, .ow x.w)
def oeG (e : EvS) : EvS × AV := (e, ints e.past)
theorem oeE_map (l : List EvE) : l.map eveC = (l.map oeE).map oeC := by rw [List.map_map]; rfl
theorem oeG_map (l : List EvS) : (l.map oeG).map oeC = l.map evC := by rw [List.map_map]; rfl
abbrev outE (v : Value) (L : List EvE) : List Res := [arrR v 37 13 L eveC, bunR (L.map eveR)]
theorem outE_fx {v : Value} {L : List EvE} (hl : L.length ≤ 1000000) (hm : ∀ x ∈ L, x.e.past.length ≤ 1000000) {l l' : List AV} {o own : List Res} (ht : FX o l l' own) : FX (outE v L ++ o) (.ow v :: l) (evs (L.map EvE.e) :: l') own := by
  refine .sl .here (by omega) (.unb .here ?_) ht
  refine FX.rows (o := o) (r := eveR) (f := eveC) (g := evC) (φ := EvE.e) L fun x hx o' => ?_
  have := hm x hx
  exact .le (ALe.refl _) (.le (ALe.refl _) (.le (ALe.refl _) (.sl .here (by omega) (FX.refl _) (FX.refl _))))
set_option maxHeartbeats 2000000 in
theorem cloneEs_a (l : List EvS) (hl : l.length ≤ 1000000) (hm : ∀ e ∈ l, e.past.length ≤ 1000000) :
    CallA Tryz.prog 95 [evs l] [] fun r own => ∃ v L, r = .ow v ∧ L.map EvE.e = l ∧ own = outE v L := by
  have hc := cloneV_o l (by omega)
  refine CallA.of pg ord95 Tryz.func95 rfl Tryz.ntmps95 Tryz.results95 rfl fun h0 G0 O0 => ?_
  repeat' (first | refine Sp.h ?_ | refine Lk.r rfl ?_ | refine Rf.mk rfl ?_ | fail)
  (refine Cl.use (hc) (by repeat' (first | exact Lend.nil | apply Lend.keep | fail)) .nil rfl ?_; rintro _ _ ⟨_, rfl, rfl⟩)
  repeat' (first | refine Sp.h ?_ | refine Lk.r rfl ?_ | refine Rf.mk rfl ?_ | (apply TkA.r; (focus (repeat (first | exact Take.here | apply Take.there)))) | fail)
  rename_i v
  apply CA.retype (m := l.map oeG) (g := oeC)
  focus (repeat (first | exact Take.here | apply Take.there))
  focus exact oeG_map l
  refine CA.bunNil eveR ?_
  refine CA.loop (fun x : Nat × List EvE => ⟨[(3, .ow v), (8, it (l.length : Nat)), (9, it x.1)], [arrR v 37 13 (x.2.map oeE ++ (l.drop x.1).map oeG) oeC, bunR (x.2.map eveR)]⟩)
    (fun x => x.1 ≤ l.length ∧ x.2.map EvE.e = l.take x.1) (fun x => l.length - x.1) (0, []) ⟨by (repeat (first | exact trivial | refine ⟨rfl, ?_⟩)), by (repeat (first | exact Subl.nil | refine Subl.cons (by (repeat (first | exact Take.here | apply Take.there))) ?_))⟩ ⟨Nat.zero_le _, by simp⟩ ?_
  rintro ⟨i, D⟩ ⟨hi, hD⟩
  simp only at hi hD
  simp only
  by_cases hin : i < l.length
  · obtain ⟨g, hg⟩ := get_of hin
    have hgm := hm g (List.mem_of_getElem? hg)
    have hDl : D.length = i := by have := congrArg List.length hD; simp at this; omega
    have hdr : (l.drop i).map oeG = oeG g :: (l.drop (i + 1)).map oeG := by
      have h9 := List.drop_eq_getElem_cons hin
      rw [(List.getElem?_eq_some_iff.1 hg).2] at h9
      rw [h9, List.map_cons]
    have hrow : (D.map oeE ++ (l.drop i).map oeG)[i]? = some (g, ints g.past) := by
      rw [hdr, List.getElem?_append_right (by simp; omega)]; simp [hDl, oeG]
    have hcl := clone_o g.past (by omega)
    repeat' (first | refine Sp.h ?_ | refine Lk.r rfl ?_ | refine Rf.mk rfl ?_ | (apply Bd.t; (focus (first | assumption | omega | rfl))) | (apply TkA.r; (focus (repeat (first | exact Take.here | apply Take.there)))) | (apply Ix.q; (focus exact rfl); (focus assumption)) | (apply At.r; (focus assumption)) | fail)
    (refine Cl.use (hcl) (by repeat' (first | exact Lend.nil | apply Lend.keep | fail)) .nil rfl ?_; rintro _ _ ⟨_, rfl, rfl⟩)
    (repeat' (first | (show CA _ _ (Code.region 6 _ _) _ _; apply Stopped.out) | refine Sp.h ?_ | refine Lk.r rfl ?_ | refine Rf.mk rfl ?_ | (apply TkA.r; (focus (repeat (first | exact Take.here | apply Take.there)))) | (apply Ix.q; (focus exact rfl); (focus assumption)) | (apply At.r; (focus assumption)) | (apply SetAk.r; (focus (repeat (first | assumption | exact SetA.z | apply SetA.s)))) | (apply Up.inv; (focus repeat (first | apply LN.cons | exact LN.nil)); (focus infer_instance)) | fail)); any_goals apply Stopped.mk
    rename_i w2
    have hset : (D.map oeE ++ (l.drop i).map oeG).set i (g, .ow w2) = (D ++ [(EvE.mk g w2)]).map oeE ++ (l.drop (i + 1)).map oeG := by
      rw [hdr, List.set_append, if_neg (by simp; omega)]
      simp [hDl, oeE]
    rw [hset]
    apply CA.bunPush (g := eveR) (x := (EvE.mk g w2))
    focus (repeat (first | exact Take.here | apply Take.there))
    focus (repeat (first | exact Take.here | apply Take.there))
    repeat' (first | refine Sp.h ?_ | refine Lk.r rfl ?_ | refine Rf.mk rfl ?_ | (apply Ov.n; (focus first | omega | (simp <;> omega))) | fail)
    exact PA.lp (i + 1, D ++ [(EvE.mk g w2)]) ⟨by (repeat (first | exact trivial | refine ⟨rfl, ?_⟩)), by (repeat (first | exact Subl.nil | refine Subl.cons (by (repeat (first | exact Take.here | apply Take.there))) ?_))⟩ ⟨⟨hin, by simp only; rw [List.map_append, hD, List.take_add_one, hg]; rfl⟩, by simp only; omega⟩
  · have hie : i = l.length := by omega
    subst hie
    rw [List.take_length] at hD
    rw [List.drop_length, List.map_nil, List.append_nil]
    (repeat' (first | (show CA _ _ (Code.region 7 _ _) _ _; apply Stopped.out) | refine Sp.h ?_ | refine Lk.r rfl ?_ | refine Rf.mk rfl ?_ | (apply Bd.f; (focus (first | assumption | omega | exact Bool.false_ne_true))) | fail)); any_goals apply Stopped.mk
    apply CA.retype (m := D) (g := eveC)
    focus (repeat (first | exact Take.here | apply Take.there))
    focus exact oeE_map D
    repeat' (first | refine Sp.h ?_ | refine Lk.r rfl ?_ | refine Rf.mk rfl ?_ | (apply Nm.r; (focus repeat (first | apply LN.cons | exact LN.nil))) | fail)
    exact ⟨_, _, .one (.same (.nil (by (repeat (first | exact Subl.nil | refine Subl.cons (by (repeat (first | exact Take.here | apply Take.there))) ?_))))), _, D, rfl, hD, rfl⟩
theorem cloneEs_p (l : List EvS) (hl : l.length ≤ 1000000) (hm : ∀ e ∈ l, e.past.length ≤ 1000000) : CallP Tryz.prog 95 [evs l] (evs l) := by
  refine CallA.fx (cloneEs_a l hl hm) ?_
  rintro r o ⟨v, L, rfl, rfl, rfl⟩
  have := outE_fx (v := v) (L := L) (o := []) (by simpa using hl) (fun x hx => hm x.e (List.mem_map_of_mem hx)) .nil
  simpa using this
/-! ### The strict cells of a model -/
theorem cells35_p (m : ModS) (hm : LayOK m.sorts m.tables) : CallP Tryz.prog 148 [mdl m] (it (strF m : Nat)) := by
  have hml := hm.2.2.1
  refine CallA.of pg ord148 Tryz.func148 rfl Tryz.ntmps148 Tryz.results148 rfl fun h0 G0 O0 => ?_
  repeat' (first | refine Sp.h ?_ | refine Lk.r rfl ?_ | refine Rf.mk rfl ?_ | (refine Im.mk ?_; intro _) | (refine All.mk ?_; intro _) | (apply TkB.r; (focus (repeat (first | exact Take.here | apply Take.there)))) | fail)
  rename_i b1 _
  refine CA.loop (fun i : Nat => ⟨[(1, pm b1), (3, it (strN m (m.tables.take i) : Nat)), (10, tbls m.tables), (11, it (m.tables.length : Nat)), (12, it i)], [mR b1 m]⟩) (fun i => i ≤ m.tables.length) (fun i => m.tables.length - i) 0 ⟨by (repeat (first | exact trivial | refine ⟨rfl, ?_⟩)), by (repeat (first | exact Subl.nil | refine Subl.cons (by (repeat (first | exact Take.here | apply Take.there))) ?_))⟩ (Nat.zero_le _) ?_
  intro i hi
  by_cases hin : i < m.tables.length
  · obtain ⟨t, ht⟩ := get_of hin
    have hc := (hm.2.2.2 t (List.mem_of_getElem? ht)).1
    have h1 := sz_fit (m := m) hc
    have hn := strN_le hm i hi
    have hsu := strN_succ (m := m) ht
    by_cases hst : isStrict t.kind
    · rw [if_pos hst] at hsu
      have h0 : t.kind = 0 ∨ t.kind = 1 := hst
      rcases h0 with h0 | h0
      all_goals repeat' (first | refine Sp.h ?_ | refine Lk.r rfl ?_ | refine Rf.mk rfl ?_ | (apply Bd.t; (focus (first | assumption | omega | rfl))) | (apply Bd.f; (focus (first | assumption | omega | exact Bool.false_ne_true))) | (refine Im.mk ?_; intro _) | (refine All.mk ?_; intro _) | (apply TkB.r; (focus (repeat (first | exact Take.here | apply Take.there)))) | (apply Ix.q; (focus exact rfl); (focus assumption)) | refine Ch.l ⟨rfl, rfl⟩ ?_ | (apply SetAsk.r; (focus (repeat (first | exact SetAs.z | (apply SetAs.c; (focus (repeat (first | assumption | exact SetA.z | apply SetA.s)))))))) | (apply Nm.r; (focus repeat (first | apply LN.cons | exact LN.nil))) | fail)
      all_goals rename_i b5 _
      all_goals refine CA.loop (fun k : Nat => ⟨[(1, pm b1), (3, it (strN m (m.tables.take i) : Nat)), (5, pm b5), (6, it (prodF m.sorts (t.cols.take k))), (10, tbls m.tables), (11, it (m.tables.length : Nat)), (12, it i), (25, ints t.cols), (26, it (t.cols.length : Nat)), (27, it k)], [mR b1 m, blkR b5 157 (tblC t)]⟩) (fun k => k ≤ t.cols.length) (fun k => t.cols.length - k) 0 ⟨by (repeat (first | exact trivial | refine ⟨rfl, ?_⟩)), by (repeat (first | exact Subl.nil | refine Subl.cons (by (repeat (first | exact Take.here | apply Take.there))) ?_))⟩ (Nat.zero_le _) ?_
      all_goals intro k hk
      all_goals by_cases hkn : k < t.cols.length
      any_goals
        obtain ⟨x, hx⟩ := get_of hkn
        obtain ⟨j, rfl, y, hy, hy1, hy2⟩ := col_get hc hx
        have hb := prod_succ hx (show m.sorts[((j : Int)).toNat]? = some y by simpa using hy)
        have hp := prod_fit hc k
        have hp2 := prod_fit hc (k + 1)
        rw [hb] at hp2
        have hj := (List.getElem?_eq_some_iff.1 hy).1
        repeat' (first | refine Sp.h ?_ | refine Lk.r rfl ?_ | refine Rf.mk rfl ?_ | (apply Bd.t; (focus (first | assumption | omega | rfl))) | (apply Om.mk; (focus first | omega | (simp <;> omega))) | (apply TkB.r; (focus (repeat (first | exact Take.here | apply Take.there)))) | (apply Ix.q; (focus exact rfl); (focus assumption)) | (apply Ov.n; (focus first | omega | (simp <;> omega))) | fail)
        rw [← hb]
        exact PA.lp (k + 1) ⟨by (repeat (first | exact trivial | refine ⟨rfl, ?_⟩)), by (repeat (first | exact Subl.nil | refine Subl.cons (by (repeat (first | exact Take.here | apply Take.there))) ?_))⟩ ⟨hkn, by omega⟩
      all_goals
        have hke : k = t.cols.length := by omega
        subst hke
        simp only [List.take_length]
        rw [h1.1]
        repeat' (first | refine Sp.h ?_ | refine Lk.r rfl ?_ | refine Rf.mk rfl ?_ | (apply Bd.f; (focus (first | assumption | omega | exact Bool.false_ne_true))) | (apply Ov.n; (focus first | omega | (simp <;> omega))) | fail)
        rw [show ((strN m (m.tables.take i) : Nat) : Int) + (szF m t : Nat) = (strN m (m.tables.take (i + 1)) : Nat) by omega]
        exact PA.lp (i + 1) ⟨by (repeat (first | exact trivial | refine ⟨rfl, ?_⟩)), by (repeat (first | exact Subl.nil | refine Subl.cons (by (repeat (first | exact Take.here | apply Take.there))) ?_))⟩ ⟨hin, by omega⟩
    · rw [if_neg hst] at hsu
      unfold isStrict at hst
      repeat' (first | refine Sp.h ?_ | refine Lk.r rfl ?_ | refine Rf.mk rfl ?_ | (apply Bd.t; (focus (first | assumption | omega | rfl))) | (apply Bd.f; (focus (first | assumption | omega | exact Bool.false_ne_true))) | (refine All.mk ?_; intro _) | (apply TkB.r; (focus (repeat (first | exact Take.here | apply Take.there)))) | (apply Ix.q; (focus exact rfl); (focus assumption)) | refine Ch.l ⟨rfl, rfl⟩ ?_ | (apply SetAsk.r; (focus (repeat (first | exact SetAs.z | (apply SetAs.c; (focus (repeat (first | assumption | exact SetA.z | apply SetA.s)))))))) | (apply Nm.r; (focus repeat (first | apply LN.cons | exact LN.nil))) | (apply Ov.n; (focus first | omega | (simp <;> omega))) | fail)
      all_goals rw [show strN m (m.tables.take i) = strN m (m.tables.take (i + 1)) by omega]
      all_goals exact PA.lp (i + 1) ⟨by (repeat (first | exact trivial | refine ⟨rfl, ?_⟩)), by (repeat (first | exact Subl.nil | refine Subl.cons (by (repeat (first | exact Take.here | apply Take.there))) ?_))⟩ ⟨hin, by omega⟩
  · have hie : i = m.tables.length := by omega
    subst hie
    simp only [List.take_length]
    repeat' (first | refine Sp.h ?_ | refine Lk.r rfl ?_ | refine Rf.mk rfl ?_ | (apply Bd.f; (focus (first | assumption | omega | exact Bool.false_ne_true))) | (apply Nm.r; (focus repeat (first | apply LN.cons | exact LN.nil))) | fail)
    exact Fin.p rfl rfl
end Go.Proofs.YtmllihbhphnolaaGreat
namespace Go.Proofs.YtmllihbhphnolaaGreat
open Go Go.CF
set_option maxRecDepth 20000
theorem ovF_int : OvF Tryz.prog 256 22 :=
  ⟨_, 4, Tryz.func256, by kernel_rfl, by kernel_rfl, by kernel_rfl, by kernel_rfl⟩
instance (priority := 2000) {T : Nat → Ord × (Nat → Cls)} {n : Nat} {rs : Array ResultVar} {K : AV → List Res → Prop} {h0 : Heap} {G0 O0 : Nat → Prop} {d : Tmp} {x y : Operand} {tys : Array TypeId} {ty : TypeId} {e : EA} {o : List Res} {N : NA} :
    Sp (SA ⟨Tryz.prog, tt, en, pg, T, n, rs, K, h0, G0, O0, ⟨none⟩⟩ .loud (some d) (.call { callee := .value (.func 256), args := #[x, y], argTypes := tys }) ty e o N)
      (Lk (evA e x) fun a => Lk (evA e y) fun b => Ovl o a b (N ((d, .val (.bool false)) :: e) o)) := ⟨fun h => SA.ovl ovF_int (tS := 22) rfl rfl h⟩
set_option maxHeartbeats 1000000 in
theorem insertI_a (w u : Value) (L : List (List Value)) (r : List Value) (i : Nat) (hi : i ≤ L.length) (hl : L.length ≤ 1000000) :
    CallA Tryz.prog 191 [.ow w, it i, .ow u] [arrR w 3 1 L valR, arrR u 3 1 [r] valR] fun q own => ∃ w', q = .ow w' ∧ own = [arrR w' 3 1 (L.take i ++ r :: L.drop i) valR] := by
  refine CallA.of pg ord191 Tryz.func191 rfl Tryz.ntmps191 Tryz.results191 rfl fun h0 G0 O0 => ?_
  have h1r : ([r] : List (List Value)).length = 1 := rfl
  by_cases hin : i = L.length
  · subst hin
    rw [List.take_length, List.drop_length]
    repeat' (first | refine Sp.h ?_ | refine Lk.r rfl ?_ | refine Rf.mk rfl ?_ | (apply Bd.t; (focus (first | assumption | omega | rfl))) | (apply Bd.f; (focus (first | assumption | omega | exact Bool.false_ne_true))) | (apply Om.mk; (focus first | omega | (simp <;> omega))) | (refine All.mk ?_; intro _) | (apply TkA.r; (focus (repeat (first | exact Take.here | apply Take.there)))) | refine Ce.r ?_ | (apply Nm.r; (focus repeat (first | apply LN.cons | exact LN.nil))) | refine Rf.mk ⟨rfl, rfl⟩ ?_ | (apply Jx.r; (focus exact rfl); (focus first | omega | (simp; done) | (simp; omega))) | refine Mp.same ?_ | fail)
    exact ⟨_, _, .one (.same (.nil (by (repeat (first | exact Subl.nil | refine Subl.cons (by (repeat (first | exact Take.here | apply Take.there))) ?_))))), _, rfl, rfl⟩
  have hin : i < L.length := by omega
  by_cases hc : capV w < L.length + 1
  · repeat' (first | refine Sp.h ?_ | refine Lk.r rfl ?_ | refine Rf.mk rfl ?_ | (apply Bd.t; (focus (first | assumption | omega | rfl))) | (apply Bd.f; (focus (first | assumption | omega | exact Bool.false_ne_true))) | (refine Im.mk ?_; intro _) | (apply TkA.r; (focus (repeat (first | exact Take.here | apply Take.there)))) | refine Rf.mk ⟨rfl, rfl⟩ ?_ | refine Rf.mk ⟨rfl, rfl, rfl⟩ ?_ | (apply Jx.r; (focus exact rfl); (focus first | omega | (simp; done) | (simp; omega))) | refine Mp.same ?_ | (apply Ov.n; (focus first | omega | (simp <;> omega))) | fail)
    refine Jx.r (j := L.length + [r].length - i) (by omega) (by omega) ?_
    (repeat' (first | (show CA _ _ (Code.region 12 _ _) _ _; apply Stopped.out) | refine Sp.h ?_ | refine Lk.r rfl ?_ | refine Rf.mk rfl ?_ | refine OpK.r rfl ?_ | (apply Om.mk; (focus first | omega | (simp <;> omega))) | (refine All.mk ?_; intro _) | (apply TkA.r; (focus (repeat (first | exact Take.here | apply Take.there)))) | refine Rf.mk ⟨rfl, rfl⟩ ?_ | refine Rf.mk ⟨rfl, rfl, rfl⟩ ?_ | (apply Jx.r; (focus exact rfl); (focus first | omega | (simp; done) | (simp; omega))) | refine Mp.same ?_ | (apply CA.draw; (focus rfl); (focus kernel_rfl); (focus kernel_rfl); (focus repeat' (first | apply ON.one | exact ON.done | exact ON.none | apply ON.alt)); (focus rfl)) | (apply Ov.n; (focus first | omega | (simp <;> omega))) | (apply CpS.part; (focus ((repeat (first | exact Take.here | apply Take.there)); done))) | (apply TkX.r; (focus (repeat (first | exact Take.here | apply Take.there)))) | fail)); any_goals apply Stopped.mk
    apply CA.ofX 9
    focus rfl
    focus (repeat (first | exact Take.here | apply Take.there))
    focus (simp; omega)
    repeat' (first | refine Sp.h ?_ | refine Lk.r rfl ?_ | refine Rf.mk rfl ?_ | (apply Nm.r; (focus repeat (first | apply LN.cons | exact LN.nil))) | fail)
    rw [ins_eq2 hin _ _ _ _ _ _ (by omega) (by omega) (by omega) (by simp; omega) (by omega) h1r]
    exact ⟨_, _, .one (.same (.nil (by (repeat (first | exact Subl.nil | refine Subl.cons (by (repeat (first | exact Take.here | apply Take.there))) ?_))))), _, rfl, rfl⟩
  · (repeat' (first | (show CA _ _ (Code.region 13 _ _) _ _; apply Stopped.out) | refine Sp.h ?_ | refine Lk.r rfl ?_ | refine Rf.mk rfl ?_ | (apply Bd.f; (focus (first | assumption | omega | exact Bool.false_ne_true))) | (refine Im.mk ?_; intro _) | (apply TkA.r; (focus (repeat (first | exact Take.here | apply Take.there)))) | (apply Jx.r; (focus exact rfl); (focus first | omega | (simp; done) | (simp; omega))) | (apply Ov.n; (focus first | omega | (simp <;> omega))) | fail)); any_goals apply Stopped.mk
    apply CA.toX 0
    focus rfl
    focus (repeat (first | exact Take.here | apply Take.there))
    intro _
    (repeat' (first | (show CA _ _ (Code.region 16 _ _) _ _; apply Stopped.out) | refine Sp.h ?_ | refine Lk.r rfl ?_ | refine Rf.mk rfl ?_ | (apply Bd.f; (focus (first | assumption | omega | exact Bool.false_ne_true))) | refine OpK.r rfl ?_ | (apply Om.mk; (focus first | omega | (simp <;> omega))) | refine Rf.mk ⟨rfl, rfl, rfl⟩ ?_ | (apply Jx.r; (focus exact rfl); (focus first | omega | (simp; done) | (simp; omega))) | (apply CA.draw; (focus rfl); (focus kernel_rfl); (focus kernel_rfl); (focus repeat' (first | apply ON.one | exact ON.done | exact ON.none | apply ON.alt)); (focus rfl)) | (apply Ov.n; (focus first | omega | (simp <;> omega))) | (apply CpS.part; (focus ((repeat (first | exact Take.here | apply Take.there)); done))) | (apply TkX.r; (focus (repeat (first | exact Take.here | apply Take.there)))) | (apply ExX.long; (focus rfl); (focus first | omega | (simp <;> omega)); (focus first | omega | (simp <;> omega))) | (apply Ovl.mk'; (focus (repeat (first | exact Take.here | apply Take.there))); (focus (repeat (first | exact Take.here | apply Take.there))); (focus decide)) | fail)); any_goals apply Stopped.mk
    refine CA.sub ⟨[(0, .ow _), (1, it i), (2, .ow u)], [arrR _ 3 1 _ valR, arrR u 3 1 [r] valR]⟩ ⟨by (repeat (first | exact trivial | refine ⟨rfl, ?_⟩)), by (repeat (first | exact Subl.nil | refine Subl.cons (by (repeat (first | exact Take.here | apply Take.there))) ?_))⟩ ?_
    repeat' (first | refine Sp.h ?_ | refine Lk.r rfl ?_ | refine Rf.mk rfl ?_ | (apply TkA.r; (focus (repeat (first | exact Take.here | apply Take.there)))) | (apply Nm.r; (focus repeat (first | apply LN.cons | exact LN.nil))) | refine Rf.mk ⟨rfl, rfl, rfl⟩ ?_ | (apply Jx.r; (focus exact rfl); (focus first | omega | (simp; done) | (simp; omega))) | refine Mp.same ?_ | (apply CpS.all; (focus ((repeat (first | exact Take.here | apply Take.there)); done))) | fail)
    rw [ins_eq hin _ _ _ (by omega) (by simp; omega) h1r]
    exact ⟨_, _, .one (.same (.nil (by (repeat (first | exact Subl.nil | refine Subl.cons (by (repeat (first | exact Take.here | apply Take.there))) ?_))))), _, rfl, rfl⟩
theorem isNaNS_p (x : Int) : CallP Tryz.prog 255 [it x] (bl false) := by
  refine CallA.of pg ord255 Tryz.func255 rfl Tryz.ntmps255 Tryz.results255 rfl fun h0 G0 O0 => ?_
  repeat' (first | refine Sp.h ?_ | refine Lk.r rfl ?_ | refine Rf.mk rfl ?_ | (apply Nm.r; (focus repeat (first | apply LN.cons | exact LN.nil))) | fail)
  all_goals exact Fin.p rfl (vb (by simp))
theorem lessI_p (x y : Int) : CallP Tryz.prog 218 [it x, it y] (bl (decide (x < y))) := by
  refine CallA.of pg ord218 Tryz.func218 rfl Tryz.ntmps218 Tryz.results218 rfl fun h0 G0 O0 => ?_
  repeat' (first | refine Sp.h ?_ | refine Lk.r rfl ?_ | refine Rf.mk rfl ?_ | (apply Nm.r; (focus repeat (first | apply LN.cons | exact LN.nil))) | fail | (apply Cl.p (isNaN_p _); (focus repeat' (first | exact Lend.nil | apply Lend.keep | fail))))
  all_goals exact Fin.p rfl (vb (by first | rfl | (simp; done) | (simp; omega)))
/-- Where a number goes. -/
noncomputable def posI (l : List Int) (n : Int) : Nat := idxN (fun y => decide (¬ y < n)) l
theorem posI_of {l : List Int} {x : Int} {n : Nat} (hn : n ≤ l.length) (h1 : ∀ (q : Nat) y, q < n → l[q]? = some y → y < x) (h2 : ∀ (q : Nat) y, n ≤ q → l[q]? = some y → ¬ y < x) : posI l x = n := by
  by_cases hnl : n < l.length
  · obtain ⟨y, hy⟩ := get_of hnl
    exact idxN_of hy (decide_eq_true (h2 n y (Nat.le_refl _) hy)) fun j z hj hz => decide_eq_false (fun h => h (h1 j z hj hz))
  · have hne : n = l.length := by omega
    rw [hne]
    exact idxN_none fun y hy => by
      obtain ⟨j, hj⟩ := List.getElem?_of_mem hy
      exact decide_eq_false (fun h => h (h1 j y (by have := (List.getElem?_eq_some_iff.1 hj).1; omega) hj))
abbrev SrtI (l : List Int) : Prop := l.Pairwise (· < ·)
theorem srtI_at {l : List Int} (h : SrtI l) {i j : Nat} {a b : Int} (hij : i < j) (ha : l[i]? = some a) (hb : l[j]? = some b) : a < b := by
  obtain ⟨h1, rfl⟩ := List.getElem?_eq_some_iff.1 ha
  obtain ⟨h2, rfl⟩ := List.getElem?_eq_some_iff.1 hb
  exact List.pairwise_iff_getElem.1 h i j h1 h2 hij
theorem binI_p (l : List Int) (x : Int) (hs : SrtI l) (hl : l.length ≤ 1000000) :
    CallP Tryz.prog 190 [ints l, it x] (.tup [it (posI l x : Nat), bl (decide (x ∈ l))]) := by
  have hmem : ∀ n, posI l x = n → (∀ (q : Nat) y, q < n → l[q]? = some y → y < x) → (∀ (q : Nat) y, n ≤ q → l[q]? = some y → ¬ y < x) → (x ∈ l ↔ l[n]? = some x) := fun n _ h1 h2 => by
    constructor
    · intro h
      obtain ⟨j, hj⟩ := List.getElem?_of_mem h
      rcases Nat.lt_trichotomy j n with hjn | hjn | hjn
      · have := h1 j x hjn hj; omega
      · rw [← hjn]; exact hj
      · have hjl := (List.getElem?_eq_some_iff.1 hj).1
        obtain ⟨z, hz⟩ := get_of (l := l) (i := n) (by omega)
        have := srtI_at hs hjn hz hj
        exact absurd this (h2 n z (Nat.le_refl _) hz)
    · exact List.mem_of_getElem?
  refine CallA.of pg ord190 Tryz.func190 rfl Tryz.ntmps190 Tryz.results190 rfl fun h0 G0 O0 => ?_
  repeat' (first | refine Sp.h ?_ | refine Lk.r rfl ?_ | refine Rf.mk rfl ?_ | (refine Im.mk ?_; intro _) | fail)
  refine CA.loop (fun p : Nat × Nat => ⟨[(0, ints l), (1, it x), (6, it (l.length : Nat)), (7, it p.1), (8, it p.2)], []⟩)
    (fun p => p.1 ≤ p.2 ∧ p.2 ≤ l.length ∧ (∀ (q : Nat) y, q < p.1 → l[q]? = some y → y < x) ∧ ∀ (q : Nat) y, p.2 ≤ q → l[q]? = some y → ¬ y < x) (fun p => p.2 - p.1) (0, l.length) ⟨by (repeat (first | exact trivial | refine ⟨rfl, ?_⟩)), by (repeat (first | exact Subl.nil | refine Subl.cons (by (repeat (first | exact Take.here | apply Take.there))) ?_))⟩
    ⟨Nat.zero_le _, Nat.le_refl _, fun q y h => absurd h (Nat.not_lt_zero q), fun q y h h' => by have := (List.getElem?_eq_some_iff.1 h').1; simp only at h; omega⟩ ?_
  rintro ⟨i, j⟩ ⟨h1, h2, h3, h4⟩
  simp only at h1 h2 h3 h4
  simp only
  by_cases hij : i < j
  · obtain ⟨y, hy⟩ := get_of (l := l) (i := (i + j) / 2) (by omega)
    have e1 : ((i : Int) + (j : Int)) / 2 = (((i + j) / 2 : Nat) : Int) := by omega
    have hle := lessI_p y x
    by_cases hyx : y < x
    · repeat' (first | refine Sp.h ?_ | refine Lk.r rfl ?_ | refine Rf.mk rfl ?_ | (apply Bd.t; (focus (first | assumption | omega | rfl))) | (apply Ix.q; (focus exact rfl); (focus assumption)) | (apply Ov.n; (focus first | omega | (simp <;> omega))) | (apply Cvk.i64; (focus rfl); (focus omega)) | (apply Cvk.u64; (focus rfl); (focus omega)) | fail | (apply Cl.p (hle); (focus repeat' (first | exact Lend.nil | apply Lend.keep | fail))))
      exact PA.lp ((i + j) / 2 + 1, j) ⟨by (repeat (first | exact trivial | refine ⟨rfl, ?_⟩)), by (repeat (first | exact Subl.nil | refine Subl.cons (by (repeat (first | exact Take.here | apply Take.there))) ?_))⟩ ⟨⟨by simp only; omega, h2, fun q z hq hz => by
        simp only at hq
        by_cases hqe : q = (i + j) / 2
        · subst hqe; rw [hy] at hz; cases hz; exact hyx
        · have := srtI_at hs (show q < (i + j) / 2 by omega) hz hy; omega, h4⟩, by simp only; omega⟩
    · repeat' (first | refine Sp.h ?_ | refine Lk.r rfl ?_ | refine Rf.mk rfl ?_ | (apply Bd.t; (focus (first | assumption | omega | rfl))) | (apply Bd.f; (focus (first | assumption | omega | exact Bool.false_ne_true))) | (apply Ix.q; (focus exact rfl); (focus assumption)) | (apply Ov.n; (focus first | omega | (simp <;> omega))) | (apply Cvk.i64; (focus rfl); (focus omega)) | (apply Cvk.u64; (focus rfl); (focus omega)) | fail | (apply Cl.p (hle); (focus repeat' (first | exact Lend.nil | apply Lend.keep | fail))))
      exact PA.lp (i, (i + j) / 2) ⟨by (repeat (first | exact trivial | refine ⟨rfl, ?_⟩)), by (repeat (first | exact Subl.nil | refine Subl.cons (by (repeat (first | exact Take.here | apply Take.there))) ?_))⟩ ⟨⟨by simp only; omega, by simp only; omega, h3, fun q z hq hz h => by
        simp only at hq
        by_cases hqe : q = (i + j) / 2
        · subst hqe; rw [hy] at hz; cases hz; exact hyx h
        · have := srtI_at hs (show (i + j) / 2 < q by omega) hy hz; omega⟩, by simp only; omega⟩
  · have hije : i = j := by omega
    subst hije
    have hpos := posI_of h2 h3 h4
    have hm := hmem i hpos h3 h4
    rw [hpos]
    by_cases hin : i < l.length
    · obtain ⟨y, hy⟩ := get_of hin
      have hme : x ∈ l ↔ y = x := hm.trans (by rw [hy]; simp)
      rw [show decide (x ∈ l) = decide (y = x) from decide_eq_decide.2 hme]
      repeat' (first | refine Sp.h ?_ | refine Lk.r rfl ?_ | refine Rf.mk rfl ?_ | (apply Bd.t; (focus (first | assumption | omega | rfl))) | (apply Bd.f; (focus (first | assumption | omega | exact Bool.false_ne_true))) | (refine Bd.mk ?_ ?_ <;> intro _) | (apply Ix.q; (focus exact rfl); (focus assumption)) | (apply Nm.r; (focus repeat (first | apply LN.cons | exact LN.nil))) | fail | (apply Cl.p (isNaNS_p _); (focus repeat' (first | exact Lend.nil | apply Lend.keep | fail))))
      all_goals exact Fin.p rfl (by first | rw [decide_eq_true (by first | rfl | assumption)] | rw [decide_eq_false (by assumption)])
    · have : decide (x ∈ l) = false := decide_eq_false (fun h => by have := (List.getElem?_eq_some_iff.1 (hm.1 h)).1; omega)
      rw [this]
      repeat' (first | refine Sp.h ?_ | refine Lk.r rfl ?_ | refine Rf.mk rfl ?_ | (apply Bd.f; (focus (first | assumption | omega | exact Bool.false_ne_true))) | (apply Nm.r; (focus repeat (first | apply LN.cons | exact LN.nil))) | fail | (apply Cl.p (isNaNS_p _); (focus repeat' (first | fail))))
      all_goals exact Fin.p rfl rfl
def rowI (x : Int) : List Value := [.int .i64 x]
theorem rowI_map (l : List Int) : (l.map rowI).map valR = l.map intC := by rw [List.map_map]; rfl
theorem with_eq {l : List Int} {n : Int} (hs : SrtI l) (hn : n ∉ l) : withP l n = l.take (posI l n) ++ n :: l.drop (posI l n) := by
  rw [withP, if_neg hn]
  have key : ∀ l : List Int, SrtI l → n ∉ l → l.filter (· < n) = l.take (posI l n) ∧ l.filter (n < ·) = l.drop (posI l n) := by
    intro l
    induction l with
    | nil => intro _ _; exact ⟨rfl, rfl⟩
    | cons a l ih =>
      intro hs hn
      obtain ⟨s1, s2⟩ := List.pairwise_cons.1 hs
      obtain ⟨i1, i2⟩ := ih s2 (fun h => hn (List.mem_cons_of_mem _ h))
      by_cases ha : a < n
      · have hp : posI (a :: l) n = posI l n + 1 := by simp [posI, idxN, ha]
        rw [hp, List.take_succ_cons, List.drop_succ_cons, List.filter_cons_of_pos (by simpa using ha), List.filter_cons_of_neg (by simp; omega), i1, i2]
        exact ⟨rfl, rfl⟩
      · have hp : posI (a :: l) n = 0 := by simp [posI, idxN, ha]
        have hne : a ≠ n := fun e => hn (e ▸ List.mem_cons_self)
        rw [hp, List.take_zero, List.drop_zero]
        refine ⟨List.filter_eq_nil_iff.2 fun y hy => ?_, List.filter_eq_self.2 fun y hy => ?_⟩
        · rcases List.mem_cons.1 hy with rfl | hy
          · simp; omega
          · have := s1 y hy; simp; omega
        · rcases List.mem_cons.1 hy with rfl | hy
          · simp; omega
          · have := s1 y hy; simp; omega
  obtain ⟨k1, k2⟩ := key l hs hn
  rw [k1, k2]
theorem insertN_a (w u : Value) (l : List Int) (n : Int) (i : Nat) (hi : i ≤ l.length) (hl : l.length ≤ 1000000) :
    CallA Tryz.prog 191 [.ow w, it i, .ow u] [arrR w 3 1 l intC, arrR u 3 1 [[it n]] id] fun q own => ∃ w', q = .ow w' ∧ own = [arrR w' 3 1 (l.take i ++ n :: l.drop i) intC] := by
  have h := insertI_a w u (l.map rowI) (rowI n) i (by simpa using hi) (by simpa using hl)
  rw [arrR_eq (l := l.map rowI) (f := valR) (m := l) (g := intC) (rowI_map l), arrR_eq (l := [rowI n]) (f := valR) (m := [[it n]]) (g := id) rfl] at h
  refine h.mono ?_
  rintro _ _ ⟨w', rfl, rfl⟩
  refine ⟨w', rfl, ?_⟩
  rw [show (l.map rowI).take i ++ rowI n :: (l.map rowI).drop i = (l.take i ++ n :: l.drop i).map rowI by simp]
  rw [arrR_eq (rowI_map _)]
theorem with_p (l : List Int) (n : Int) (hs : SrtI l) (hl : l.length ≤ 100000) : CallP Tryz.prog 132 [ints l, it n] (ints (withP l n)) := by
  have hb := binI_p l n hs (by omega)
  have hc := clone_o l (by omega)
  by_cases hn : n ∈ l
  · rw [show withP l n = l from if_pos hn]
    rw [decide_eq_true hn] at hb
    refine CallA.of pg ord132 Tryz.func132 rfl Tryz.ntmps132 Tryz.results132 rfl fun h0 G0 O0 => ?_
    repeat' (first | refine Sp.h ?_ | refine Lk.r rfl ?_ | refine Rf.mk rfl ?_ | (apply Nm.r; (focus repeat (first | apply LN.cons | exact LN.nil))) | fail | (apply Cl.p (hb); (focus repeat' (first | exact Lend.nil | apply Lend.keep | fail))))
    exact Fin.p rfl rfl
  · have hpl : posI l n ≤ l.length := idxN_le _ _
    rw [decide_eq_false hn] at hb
    rw [with_eq hs hn]
    refine CallA.fz (T := 3) (by simp; omega) ?_
    refine CallA.of pg ord132 Tryz.func132 rfl Tryz.ntmps132 Tryz.results132 rfl fun h0 G0 O0 => ?_
    repeat' (first | refine Sp.h ?_ | refine Lk.r rfl ?_ | refine Rf.mk rfl ?_ | fail | (apply Cl.p (hb); (focus repeat' (first | exact Lend.nil | apply Lend.keep | fail))))
    (refine Cl.use (hc) (by repeat' (first | exact Lend.nil | apply Lend.keep | fail)) .nil rfl ?_; rintro _ _ ⟨_, rfl, rfl⟩)
    repeat' (first | refine Sp.h ?_ | refine Lk.r rfl ?_ | refine Rf.mk rfl ?_ | (refine All.mk ?_; intro _) | (apply Fk.r; (focus (repeat (first | exact FillA.nil | (apply FillA.agg; (focus rfl); (focus rfl); (focus (repeat (first | exact SetAs.z | (apply SetAs.c; (focus (repeat (first | assumption | exact SetA.z | apply SetA.s)))))))) | (apply FillA.one; (focus rfl); (focus infer_instance); (focus (repeat (first | assumption | exact SetA.z | apply SetA.s)))))))) | refine Rf.mk ⟨rfl, rfl, rfl⟩ ?_ | fail)
    rename_i w u
    have hi := insertN_a w u l n (posI l n) hpl (by omega)
    (apply Cl.use (hi); (focus repeat' (first | exact Lend.nil | apply Lend.keep | fail)); (focus (repeat (first | exact Takes.nil | (apply Takes.cons; (focus (repeat (first | exact Take.here | apply Take.there))))))); (focus rfl))
    rintro _ _ ⟨w', rfl, rfl⟩
    repeat' (first | refine Sp.h ?_ | refine Lk.r rfl ?_ | (apply Nm.r; (focus repeat (first | apply LN.cons | exact LN.nil))) | fail)
    exact ⟨_, _, .one (.same (.nil (by (repeat (first | exact Subl.nil | refine Subl.cons (by (repeat (first | exact Take.here | apply Take.there))) ?_))))), _, rfl, rfl⟩
end Go.Proofs.YtmllihbhphnolaaGreat
